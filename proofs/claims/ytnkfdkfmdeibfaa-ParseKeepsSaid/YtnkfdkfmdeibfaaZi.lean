/- Parse: with more steps the same answer. No program in sight. The table of calls that are answered at once: the library's search for a byte. Parse, the program: the reader in memory; its looks at a token. Parse, the program: what is known of its reader's looks, for runs over trees. Parse, the program: a token that can't stand there: fail panics. Parse, the program: the closure that Parse defers. -/
import Derived.Test.YtnkfdkfmdeibfaaZh
import Derived.Test.YtnkfdkfmdeibfaaZd
import Derived.Test.YtnkfdkfmdeibfaaChecked
import Derived.Laws.Externs
import Derived.Test.YtnkfdkfmdeibfaaZf
section
namespace Go.Proofs.Ytnkfdkfmdeibfaa
namespace Can
set_option linter.unusedSimpArgs false
set_option linter.unusedVariables false
def LeP (a b : PR) : Prop := ∀ r, a = some r → b = some r
theorem LeP.refl {a : PR} : LeP a a := fun _ h => h
theorem le_pb {r r' : PR} {k k' : List Nd → Nat → PR} (h : LeP r r') (hk : ∀ l j, LeP (k l j) (k' l j)) : LeP (pb r k) (pb r' k') := fun x hx => by
  match r, h, hx with
  | none, _, hx => cases hx
  | some (.error e), h, hx => rw [h _ rfl]; exact hx
  | some (.ok (l, j)), h, hx => rw [h _ rfl]; exact hk l j x hx
theorem le_pb1 {r r' : PR} {k k' : Nd → Nat → PR} (h : LeP r r') (hk : ∀ t j, LeP (k t j) (k' t j)) : LeP (pb1 r k) (pb1 r' k') := le_pb h fun l j => by
  match l with
  | [] => exact LeP.refl
  | [t] => exact hk t j
  | _ :: _ :: _ => exact LeP.refl
theorem le_wantB {ts : List PT} {s : List UInt8} {i : Nat} {k k' : Nat → PR} (hk : ∀ j, LeP (k j) (k' j)) : LeP (wantB ts s i k) (wantB ts s i k') := by
  unfold wantB
  split
  · exact hk _
  · exact LeP.refl
theorem le_wantK {ts : List PT} {kd : Int} {i : Nat} {k k' : List UInt8 → Nat → PR} (hk : ∀ s j, LeP (k s j) (k' s j)) : LeP (wantK ts kd i k) (wantK ts kd i k') := by
  unfold wantK
  split
  · exact hk _ _
  · exact LeP.refl
theorem le_ite {c : Prop} [Decidable c] {a b a' b' : PR} (h1 : LeP a a') (h2 : LeP b b') : LeP (if c then a else b) (if c then a' else b') := by
  split
  · exact h1
  · exact h2
def MnOk (ts : List PT) (f g : Nat) : Prop := ∀ a i, LeP (gr ts f a i) (gr ts g a i)
theorem mm_expr {ts : List PT} {f g i : Nat} (ih : ∀ a i, LeP (gr ts f a i) (gr ts g a i))  : LeP (gr ts (f + 1) (NT.expr) i) (gr ts (g + 1) (NT.expr) i) := by
  simp only [gr]
  repeat' first | (with_reducible exact LeP.refl) | (with_reducible exact ih _ _) | (with_reducible refine le_ite ?_ ?_) | (with_reducible refine le_wantB fun _ => ?_) | (with_reducible refine le_wantK fun _ _ => ?_) | (with_reducible refine le_pb1 (ih _ _) fun _ _ => ?_) | (with_reducible refine le_pb (ih _ _) fun _ _ => ?_)
theorem mm_or {ts : List PT} {f g i : Nat} (ih : ∀ a i, LeP (gr ts f a i) (gr ts g a i))  : LeP (gr ts (f + 1) (NT.or) i) (gr ts (g + 1) (NT.or) i) := by
  simp only [gr]
  repeat' first | (with_reducible exact LeP.refl) | (with_reducible exact ih _ _) | (with_reducible refine le_ite ?_ ?_) | (with_reducible refine le_wantB fun _ => ?_) | (with_reducible refine le_wantK fun _ _ => ?_) | (with_reducible refine le_pb1 (ih _ _) fun _ _ => ?_) | (with_reducible refine le_pb (ih _ _) fun _ _ => ?_)
theorem mm_and {ts : List PT} {f g i : Nat} (ih : ∀ a i, LeP (gr ts f a i) (gr ts g a i))  : LeP (gr ts (f + 1) (NT.and) i) (gr ts (g + 1) (NT.and) i) := by
  simp only [gr]
  repeat' first | (with_reducible exact LeP.refl) | (with_reducible exact ih _ _) | (with_reducible refine le_ite ?_ ?_) | (with_reducible refine le_wantB fun _ => ?_) | (with_reducible refine le_wantK fun _ _ => ?_) | (with_reducible refine le_pb1 (ih _ _) fun _ _ => ?_) | (with_reducible refine le_pb (ih _ _) fun _ _ => ?_)
theorem mm_not {ts : List PT} {f g i : Nat} (ih : ∀ a i, LeP (gr ts f a i) (gr ts g a i))  : LeP (gr ts (f + 1) (NT.not) i) (gr ts (g + 1) (NT.not) i) := by
  simp only [gr]
  repeat' first | (with_reducible exact LeP.refl) | (with_reducible exact ih _ _) | (with_reducible refine le_ite ?_ ?_) | (with_reducible refine le_wantB fun _ => ?_) | (with_reducible refine le_wantK fun _ _ => ?_) | (with_reducible refine le_pb1 (ih _ _) fun _ _ => ?_) | (with_reducible refine le_pb (ih _ _) fun _ _ => ?_)
theorem mm_compare {ts : List PT} {f g i : Nat} (ih : ∀ a i, LeP (gr ts f a i) (gr ts g a i))  : LeP (gr ts (f + 1) (NT.compare) i) (gr ts (g + 1) (NT.compare) i) := by
  simp only [gr]
  repeat' first | (with_reducible exact LeP.refl) | (with_reducible exact ih _ _) | (with_reducible refine le_ite ?_ ?_) | (with_reducible refine le_wantB fun _ => ?_) | (with_reducible refine le_wantK fun _ _ => ?_) | (with_reducible refine le_pb1 (ih _ _) fun _ _ => ?_) | (with_reducible refine le_pb (ih _ _) fun _ _ => ?_)
theorem mm_arith {ts : List PT} {f g i : Nat} (ih : ∀ a i, LeP (gr ts f a i) (gr ts g a i))  : LeP (gr ts (f + 1) (NT.arith) i) (gr ts (g + 1) (NT.arith) i) := by
  simp only [gr]
  repeat' first | (with_reducible exact LeP.refl) | (with_reducible exact ih _ _) | (with_reducible refine le_ite ?_ ?_) | (with_reducible refine le_wantB fun _ => ?_) | (with_reducible refine le_wantK fun _ _ => ?_) | (with_reducible refine le_pb1 (ih _ _) fun _ _ => ?_) | (with_reducible refine le_pb (ih _ _) fun _ _ => ?_)
theorem mm_term {ts : List PT} {f g i : Nat} (ih : ∀ a i, LeP (gr ts f a i) (gr ts g a i))  : LeP (gr ts (f + 1) (NT.term) i) (gr ts (g + 1) (NT.term) i) := by
  simp only [gr]
  repeat' first | (with_reducible exact LeP.refl) | (with_reducible exact ih _ _) | (with_reducible refine le_ite ?_ ?_) | (with_reducible refine le_wantB fun _ => ?_) | (with_reducible refine le_wantK fun _ _ => ?_) | (with_reducible refine le_pb1 (ih _ _) fun _ _ => ?_) | (with_reducible refine le_pb (ih _ _) fun _ _ => ?_)
theorem mm_factor {ts : List PT} {f g i : Nat} (ih : ∀ a i, LeP (gr ts f a i) (gr ts g a i))  : LeP (gr ts (f + 1) (NT.factor) i) (gr ts (g + 1) (NT.factor) i) := by
  simp only [gr]
  repeat' first | (with_reducible exact LeP.refl) | (with_reducible exact ih _ _) | (with_reducible refine le_ite ?_ ?_) | (with_reducible refine le_wantB fun _ => ?_) | (with_reducible refine le_wantK fun _ _ => ?_) | (with_reducible refine le_pb1 (ih _ _) fun _ _ => ?_) | (with_reducible refine le_pb (ih _ _) fun _ _ => ?_)
theorem mm_primary {ts : List PT} {f g i : Nat} (ih : ∀ a i, LeP (gr ts f a i) (gr ts g a i))  : LeP (gr ts (f + 1) (NT.primary) i) (gr ts (g + 1) (NT.primary) i) := by
  simp only [gr]
  repeat' first | (with_reducible exact LeP.refl) | (with_reducible exact ih _ _) | (with_reducible refine le_ite ?_ ?_) | (with_reducible refine le_wantB fun _ => ?_) | (with_reducible refine le_wantK fun _ _ => ?_) | (with_reducible refine le_pb1 (ih _ _) fun _ _ => ?_) | (with_reducible refine le_pb (ih _ _) fun _ _ => ?_)
theorem mm_atom {ts : List PT} {f g i : Nat} (ih : ∀ a i, LeP (gr ts f a i) (gr ts g a i))  : LeP (gr ts (f + 1) (NT.atom) i) (gr ts (g + 1) (NT.atom) i) := by
  simp only [gr]
  repeat' first | (with_reducible exact LeP.refl) | (with_reducible exact ih _ _) | (with_reducible refine le_ite ?_ ?_) | (with_reducible refine le_wantB fun _ => ?_) | (with_reducible refine le_wantK fun _ _ => ?_) | (with_reducible refine le_pb1 (ih _ _) fun _ _ => ?_) | (with_reducible refine le_pb (ih _ _) fun _ _ => ?_)
theorem mm_exprs {ts : List PT} {f g i : Nat} (ih : ∀ a i, LeP (gr ts f a i) (gr ts g a i))  : LeP (gr ts (f + 1) (NT.exprs) i) (gr ts (g + 1) (NT.exprs) i) := by
  simp only [gr]
  repeat' first | (with_reducible exact LeP.refl) | (with_reducible exact ih _ _) | (with_reducible refine le_ite ?_ ?_) | (with_reducible refine le_wantB fun _ => ?_) | (with_reducible refine le_wantK fun _ _ => ?_) | (with_reducible refine le_pb1 (ih _ _) fun _ _ => ?_) | (with_reducible refine le_pb (ih _ _) fun _ _ => ?_)
theorem mm_one {ts : List PT} {f g i : Nat} (ih : ∀ a i, LeP (gr ts f a i) (gr ts g a i))  : LeP (gr ts (f + 1) (NT.one) i) (gr ts (g + 1) (NT.one) i) := by
  simp only [gr]
  repeat' first | (with_reducible exact LeP.refl) | (with_reducible exact ih _ _) | (with_reducible refine le_ite ?_ ?_) | (with_reducible refine le_wantB fun _ => ?_) | (with_reducible refine le_wantK fun _ _ => ?_) | (with_reducible refine le_pb1 (ih _ _) fun _ _ => ?_) | (with_reducible refine le_pb (ih _ _) fun _ _ => ?_)
theorem mm_places {ts : List PT} {f g i : Nat} (ih : ∀ a i, LeP (gr ts f a i) (gr ts g a i))  : LeP (gr ts (f + 1) (NT.places) i) (gr ts (g + 1) (NT.places) i) := by
  simp only [gr]
  repeat' first | (with_reducible exact LeP.refl) | (with_reducible exact ih _ _) | (with_reducible refine le_ite ?_ ?_) | (with_reducible refine le_wantB fun _ => ?_) | (with_reducible refine le_wantK fun _ _ => ?_) | (with_reducible refine le_pb1 (ih _ _) fun _ _ => ?_) | (with_reducible refine le_pb (ih _ _) fun _ _ => ?_)
theorem mm_simple {ts : List PT} {f g i : Nat} (ih : ∀ a i, LeP (gr ts f a i) (gr ts g a i))  : LeP (gr ts (f + 1) (NT.simple) i) (gr ts (g + 1) (NT.simple) i) := by
  simp only [gr]
  repeat' first | (with_reducible exact LeP.refl) | (with_reducible exact ih _ _) | (with_reducible refine le_ite ?_ ?_) | (with_reducible refine le_wantB fun _ => ?_) | (with_reducible refine le_wantK fun _ _ => ?_) | (with_reducible refine le_pb1 (ih _ _) fun _ _ => ?_) | (with_reducible refine le_pb (ih _ _) fun _ _ => ?_)
theorem mm_plain {ts : List PT} {f g i : Nat} (ih : ∀ a i, LeP (gr ts f a i) (gr ts g a i))  : LeP (gr ts (f + 1) (NT.plain) i) (gr ts (g + 1) (NT.plain) i) := by
  simp only [gr]
  repeat' first | (with_reducible exact LeP.refl) | (with_reducible exact ih _ _) | (with_reducible refine le_ite ?_ ?_) | (with_reducible refine le_wantB fun _ => ?_) | (with_reducible refine le_wantK fun _ _ => ?_) | (with_reducible refine le_pb1 (ih _ _) fun _ _ => ?_) | (with_reducible refine le_pb (ih _ _) fun _ _ => ?_)
theorem mm_value {ts : List PT} {f g i : Nat} (ih : ∀ a i, LeP (gr ts f a i) (gr ts g a i))  : LeP (gr ts (f + 1) (NT.value) i) (gr ts (g + 1) (NT.value) i) := by
  simp only [gr]
  repeat' first | (with_reducible exact LeP.refl) | (with_reducible exact ih _ _) | (with_reducible refine le_ite ?_ ?_) | (with_reducible refine le_wantB fun _ => ?_) | (with_reducible refine le_wantK fun _ _ => ?_) | (with_reducible refine le_pb1 (ih _ _) fun _ _ => ?_) | (with_reducible refine le_pb (ih _ _) fun _ _ => ?_)
theorem mm_block {ts : List PT} {f g i : Nat} (ih : ∀ a i, LeP (gr ts f a i) (gr ts g a i))  : LeP (gr ts (f + 1) (NT.block) i) (gr ts (g + 1) (NT.block) i) := by
  simp only [gr]
  repeat' first | (with_reducible exact LeP.refl) | (with_reducible exact ih _ _) | (with_reducible refine le_ite ?_ ?_) | (with_reducible refine le_wantB fun _ => ?_) | (with_reducible refine le_wantK fun _ _ => ?_) | (with_reducible refine le_pb1 (ih _ _) fun _ _ => ?_) | (with_reducible refine le_pb (ih _ _) fun _ _ => ?_)
theorem mm_stmt {ts : List PT} {f g i : Nat} (ih : ∀ a i, LeP (gr ts f a i) (gr ts g a i))  : LeP (gr ts (f + 1) (NT.stmt) i) (gr ts (g + 1) (NT.stmt) i) := by
  simp only [gr]
  repeat' first | (with_reducible exact LeP.refl) | (with_reducible exact ih _ _) | (with_reducible refine le_ite ?_ ?_) | (with_reducible refine le_wantB fun _ => ?_) | (with_reducible refine le_wantK fun _ _ => ?_) | (with_reducible refine le_pb1 (ih _ _) fun _ _ => ?_) | (with_reducible refine le_pb (ih _ _) fun _ _ => ?_)
theorem mm_params {ts : List PT} {f g i : Nat} (ih : ∀ a i, LeP (gr ts f a i) (gr ts g a i)) {a : List UInt8} {b : Int} {c : List Nd} : LeP (gr ts (f + 1) (NT.params a b c) i) (gr ts (g + 1) (NT.params a b c) i) := by
  simp only [gr]
  repeat' first | (with_reducible exact LeP.refl) | (with_reducible exact ih _ _) | (with_reducible refine le_ite ?_ ?_) | (with_reducible refine le_wantB fun _ => ?_) | (with_reducible refine le_wantK fun _ _ => ?_) | (with_reducible refine le_pb1 (ih _ _) fun _ _ => ?_) | (with_reducible refine le_pb (ih _ _) fun _ _ => ?_)
theorem mm_row {ts : List PT} {f g i : Nat} (ih : ∀ a i, LeP (gr ts f a i) (gr ts g a i)) {a : List UInt8} {b : List Nd} : LeP (gr ts (f + 1) (NT.row a b) i) (gr ts (g + 1) (NT.row a b) i) := by
  simp only [gr]
  repeat' first | (with_reducible exact LeP.refl) | (with_reducible exact ih _ _) | (with_reducible refine le_ite ?_ ?_) | (with_reducible refine le_wantB fun _ => ?_) | (with_reducible refine le_wantK fun _ _ => ?_) | (with_reducible refine le_pb1 (ih _ _) fun _ _ => ?_) | (with_reducible refine le_pb (ih _ _) fun _ _ => ?_)
theorem mm_exprsL {ts : List PT} {f g i : Nat} (ih : ∀ a i, LeP (gr ts f a i) (gr ts g a i)) {a : Int} {b : List Nd} : LeP (gr ts (f + 1) (NT.exprsL a b) i) (gr ts (g + 1) (NT.exprsL a b) i) := by
  simp only [gr]
  repeat' first | (with_reducible exact LeP.refl) | (with_reducible exact ih _ _) | (with_reducible refine le_ite ?_ ?_) | (with_reducible refine le_wantB fun _ => ?_) | (with_reducible refine le_wantK fun _ _ => ?_) | (with_reducible refine le_pb1 (ih _ _) fun _ _ => ?_) | (with_reducible refine le_pb (ih _ _) fun _ _ => ?_)
theorem mm_orL {ts : List PT} {f g i : Nat} (ih : ∀ a i, LeP (gr ts f a i) (gr ts g a i)) {a : Nd} : LeP (gr ts (f + 1) (NT.orL a) i) (gr ts (g + 1) (NT.orL a) i) := by
  simp only [gr]
  repeat' first | (with_reducible exact LeP.refl) | (with_reducible exact ih _ _) | (with_reducible refine le_ite ?_ ?_) | (with_reducible refine le_wantB fun _ => ?_) | (with_reducible refine le_wantK fun _ _ => ?_) | (with_reducible refine le_pb1 (ih _ _) fun _ _ => ?_) | (with_reducible refine le_pb (ih _ _) fun _ _ => ?_)
theorem mm_andL {ts : List PT} {f g i : Nat} (ih : ∀ a i, LeP (gr ts f a i) (gr ts g a i)) {a : Nd} : LeP (gr ts (f + 1) (NT.andL a) i) (gr ts (g + 1) (NT.andL a) i) := by
  simp only [gr]
  repeat' first | (with_reducible exact LeP.refl) | (with_reducible exact ih _ _) | (with_reducible refine le_ite ?_ ?_) | (with_reducible refine le_wantB fun _ => ?_) | (with_reducible refine le_wantK fun _ _ => ?_) | (with_reducible refine le_pb1 (ih _ _) fun _ _ => ?_) | (with_reducible refine le_pb (ih _ _) fun _ _ => ?_)
theorem mm_cmpL {ts : List PT} {f g i : Nat} (ih : ∀ a i, LeP (gr ts f a i) (gr ts g a i)) {a : Nd} {b : List Nd} : LeP (gr ts (f + 1) (NT.cmpL a b) i) (gr ts (g + 1) (NT.cmpL a b) i) := by
  simp only [gr]
  split
  all_goals repeat' first | (with_reducible exact LeP.refl) | (with_reducible exact ih _ _) | (with_reducible refine le_ite ?_ ?_) | (with_reducible refine le_wantB fun _ => ?_) | (with_reducible refine le_wantK fun _ _ => ?_) | (with_reducible refine le_pb1 (ih _ _) fun _ _ => ?_) | (with_reducible refine le_pb (ih _ _) fun _ _ => ?_)
theorem mm_arithL {ts : List PT} {f g i : Nat} (ih : ∀ a i, LeP (gr ts f a i) (gr ts g a i)) {a : Nd} : LeP (gr ts (f + 1) (NT.arithL a) i) (gr ts (g + 1) (NT.arithL a) i) := by
  simp only [gr]
  repeat' first | (with_reducible exact LeP.refl) | (with_reducible exact ih _ _) | (with_reducible refine le_ite ?_ ?_) | (with_reducible refine le_wantB fun _ => ?_) | (with_reducible refine le_wantK fun _ _ => ?_) | (with_reducible refine le_pb1 (ih _ _) fun _ _ => ?_) | (with_reducible refine le_pb (ih _ _) fun _ _ => ?_)
theorem mm_termL {ts : List PT} {f g i : Nat} (ih : ∀ a i, LeP (gr ts f a i) (gr ts g a i)) {a : Nd} : LeP (gr ts (f + 1) (NT.termL a) i) (gr ts (g + 1) (NT.termL a) i) := by
  simp only [gr]
  repeat' first | (with_reducible exact LeP.refl) | (with_reducible exact ih _ _) | (with_reducible refine le_ite ?_ ?_) | (with_reducible refine le_wantB fun _ => ?_) | (with_reducible refine le_wantK fun _ _ => ?_) | (with_reducible refine le_pb1 (ih _ _) fun _ _ => ?_) | (with_reducible refine le_pb (ih _ _) fun _ _ => ?_)
theorem mm_primL {ts : List PT} {f g i : Nat} (ih : ∀ a i, LeP (gr ts f a i) (gr ts g a i)) {a : Nd} : LeP (gr ts (f + 1) (NT.primL a) i) (gr ts (g + 1) (NT.primL a) i) := by
  simp only [gr]
  repeat' first | (with_reducible exact LeP.refl) | (with_reducible exact ih _ _) | (with_reducible refine le_ite ?_ ?_) | (with_reducible refine le_wantB fun _ => ?_) | (with_reducible refine le_wantK fun _ _ => ?_) | (with_reducible refine le_pb1 (ih _ _) fun _ _ => ?_) | (with_reducible refine le_pb (ih _ _) fun _ _ => ?_)
theorem mm_index {ts : List PT} {f g i : Nat} (ih : ∀ a i, LeP (gr ts f a i) (gr ts g a i)) {a : Nd} : LeP (gr ts (f + 1) (NT.index a) i) (gr ts (g + 1) (NT.index a) i) := by
  simp only [gr]
  repeat' first | (with_reducible exact LeP.refl) | (with_reducible exact ih _ _) | (with_reducible refine le_ite ?_ ?_) | (with_reducible refine le_wantB fun _ => ?_) | (with_reducible refine le_wantK fun _ _ => ?_) | (with_reducible refine le_pb1 (ih _ _) fun _ _ => ?_) | (with_reducible refine le_pb (ih _ _) fun _ _ => ?_)
theorem mm_clauses {ts : List PT} {f g i : Nat} (ih : ∀ a i, LeP (gr ts f a i) (gr ts g a i)) {a : List Nd} : LeP (gr ts (f + 1) (NT.clauses a) i) (gr ts (g + 1) (NT.clauses a) i) := by
  simp only [gr]
  repeat' first | (with_reducible exact LeP.refl) | (with_reducible exact ih _ _) | (with_reducible refine le_ite ?_ ?_) | (with_reducible refine le_wantB fun _ => ?_) | (with_reducible refine le_wantK fun _ _ => ?_) | (with_reducible refine le_pb1 (ih _ _) fun _ _ => ?_) | (with_reducible refine le_pb (ih _ _) fun _ _ => ?_)
theorem mm_list {ts : List PT} {f g i : Nat} (ih : ∀ a i, LeP (gr ts f a i) (gr ts g a i)) {a : Int} : LeP (gr ts (f + 1) (NT.list a) i) (gr ts (g + 1) (NT.list a) i) := by
  simp only [gr]
  repeat' first | (with_reducible exact LeP.refl) | (with_reducible exact ih _ _) | (with_reducible refine le_ite ?_ ?_) | (with_reducible refine le_wantB fun _ => ?_) | (with_reducible refine le_wantK fun _ _ => ?_) | (with_reducible refine le_pb1 (ih _ _) fun _ _ => ?_) | (with_reducible refine le_pb (ih _ _) fun _ _ => ?_)
theorem mm_braces {ts : List PT} {f g i : Nat} (ih : ∀ a i, LeP (gr ts f a i) (gr ts g a i)) {a : Int} : LeP (gr ts (f + 1) (NT.braces a) i) (gr ts (g + 1) (NT.braces a) i) := by
  simp only [gr]
  repeat' first | (with_reducible exact LeP.refl) | (with_reducible exact ih _ _) | (with_reducible refine le_ite ?_ ?_) | (with_reducible refine le_wantB fun _ => ?_) | (with_reducible refine le_wantK fun _ _ => ?_) | (with_reducible refine le_pb1 (ih _ _) fun _ _ => ?_) | (with_reducible refine le_pb (ih _ _) fun _ _ => ?_)
theorem mm_dictL {ts : List PT} {f g i : Nat} (ih : ∀ a i, LeP (gr ts f a i) (gr ts g a i)) {a : Int} {b : List Nd} : LeP (gr ts (f + 1) (NT.dictL a b) i) (gr ts (g + 1) (NT.dictL a b) i) := by
  simp only [gr]
  repeat' first | (with_reducible exact LeP.refl) | (with_reducible exact ih _ _) | (with_reducible refine le_ite ?_ ?_) | (with_reducible refine le_wantB fun _ => ?_) | (with_reducible refine le_wantK fun _ _ => ?_) | (with_reducible refine le_pb1 (ih _ _) fun _ _ => ?_) | (with_reducible refine le_pb (ih _ _) fun _ _ => ?_)
theorem mm_placesL {ts : List PT} {f g i : Nat} (ih : ∀ a i, LeP (gr ts f a i) (gr ts g a i)) {a : Int} {b : List Nd} : LeP (gr ts (f + 1) (NT.placesL a b) i) (gr ts (g + 1) (NT.placesL a b) i) := by
  simp only [gr]
  repeat' first | (with_reducible exact LeP.refl) | (with_reducible exact ih _ _) | (with_reducible refine le_ite ?_ ?_) | (with_reducible refine le_wantB fun _ => ?_) | (with_reducible refine le_wantK fun _ _ => ?_) | (with_reducible refine le_pb1 (ih _ _) fun _ _ => ?_) | (with_reducible refine le_pb (ih _ _) fun _ _ => ?_)
theorem mm_names {ts : List PT} {f g i : Nat} (ih : ∀ a i, LeP (gr ts f a i) (gr ts g a i)) {a : Nat} {b : Int} {c : List Nd} : LeP (gr ts (f + 1) (NT.names a b c) i) (gr ts (g + 1) (NT.names a b c) i) := by
  simp only [gr]
  repeat' first | (with_reducible exact LeP.refl) | (with_reducible exact ih _ _) | (with_reducible refine le_ite ?_ ?_) | (with_reducible refine le_wantB fun _ => ?_) | (with_reducible refine le_wantK fun _ _ => ?_) | (with_reducible refine le_pb1 (ih _ _) fun _ _ => ?_) | (with_reducible refine le_pb (ih _ _) fun _ _ => ?_)
theorem mm_maybe {ts : List PT} {f g i : Nat} (ih : ∀ a i, LeP (gr ts f a i) (gr ts g a i)) {a : Nat} {b : Int} {c : Bool} : LeP (gr ts (f + 1) (NT.maybe a b c) i) (gr ts (g + 1) (NT.maybe a b c) i) := by
  simp only [gr]
  repeat' first | (with_reducible exact LeP.refl) | (with_reducible exact ih _ _) | (with_reducible refine le_ite ?_ ?_) | (with_reducible refine le_wantB fun _ => ?_) | (with_reducible refine le_wantK fun _ _ => ?_) | (with_reducible refine le_pb1 (ih _ _) fun _ _ => ?_) | (with_reducible refine le_pb (ih _ _) fun _ _ => ?_)
theorem mm_asgL {ts : List PT} {f g i : Nat} (ih : ∀ a i, LeP (gr ts f a i) (gr ts g a i)) {a : Int} {b : List Nd} : LeP (gr ts (f + 1) (NT.asgL a b) i) (gr ts (g + 1) (NT.asgL a b) i) := by
  simp only [gr]
  cases b.getLast? with
  | none => exact le_ite LeP.refl LeP.refl
  | some t => repeat' first | (with_reducible exact LeP.refl) | (with_reducible exact ih _ _) | (with_reducible refine le_ite ?_ ?_) | (with_reducible refine le_wantB fun _ => ?_) | (with_reducible refine le_wantK fun _ _ => ?_) | (with_reducible refine le_pb1 (ih _ _) fun _ _ => ?_) | (with_reducible refine le_pb (ih _ _) fun _ _ => ?_)
theorem mm_blockL {ts : List PT} {f g i : Nat} (ih : ∀ a i, LeP (gr ts f a i) (gr ts g a i)) {a : List Nd} : LeP (gr ts (f + 1) (NT.blockL a) i) (gr ts (g + 1) (NT.blockL a) i) := by
  simp only [gr]
  repeat' first | (with_reducible exact LeP.refl) | (with_reducible exact ih _ _) | (with_reducible refine le_ite ?_ ?_) | (with_reducible refine le_wantB fun _ => ?_) | (with_reducible refine le_wantK fun _ _ => ?_) | (with_reducible refine le_pb1 (ih _ _) fun _ _ => ?_) | (with_reducible refine le_pb (ih _ _) fun _ _ => ?_)
theorem mm_ifs {ts : List PT} {f g i : Nat} (ih : ∀ a i, LeP (gr ts f a i) (gr ts g a i)) {a : Int} : LeP (gr ts (f + 1) (NT.ifs a) i) (gr ts (g + 1) (NT.ifs a) i) := by
  simp only [gr]
  repeat' first | (with_reducible exact LeP.refl) | (with_reducible exact ih _ _) | (with_reducible refine le_ite ?_ ?_) | (with_reducible refine le_wantB fun _ => ?_) | (with_reducible refine le_wantK fun _ _ => ?_) | (with_reducible refine le_pb1 (ih _ _) fun _ _ => ?_) | (with_reducible refine le_pb (ih _ _) fun _ _ => ?_)
theorem mm_tries {ts : List PT} {f g i : Nat} (ih : ∀ a i, LeP (gr ts f a i) (gr ts g a i)) {a : Int} : LeP (gr ts (f + 1) (NT.tries a) i) (gr ts (g + 1) (NT.tries a) i) := by
  simp only [gr]
  repeat' first | (with_reducible exact LeP.refl) | (with_reducible exact ih _ _) | (with_reducible refine le_ite ?_ ?_) | (with_reducible refine le_wantB fun _ => ?_) | (with_reducible refine le_wantK fun _ _ => ?_) | (with_reducible refine le_pb1 (ih _ _) fun _ _ => ?_) | (with_reducible refine le_pb (ih _ _) fun _ _ => ?_)
theorem mm_triesL {ts : List PT} {f g i : Nat} (ih : ∀ a i, LeP (gr ts f a i) (gr ts g a i)) {a : List Nd} : LeP (gr ts (f + 1) (NT.triesL a) i) (gr ts (g + 1) (NT.triesL a) i) := by
  simp only [gr]
  repeat' first | (with_reducible exact LeP.refl) | (with_reducible exact ih _ _) | (with_reducible refine le_ite ?_ ?_) | (with_reducible refine le_wantB fun _ => ?_) | (with_reducible refine le_wantK fun _ _ => ?_) | (with_reducible refine le_pb1 (ih _ _) fun _ _ => ?_) | (with_reducible refine le_pb (ih _ _) fun _ _ => ?_)
theorem mm_triesF {ts : List PT} {f g i : Nat} (ih : ∀ a i, LeP (gr ts f a i) (gr ts g a i)) {a : Int} {b : List Nd} : LeP (gr ts (f + 1) (NT.triesF a b) i) (gr ts (g + 1) (NT.triesF a b) i) := by
  simp only [gr]
  repeat' first | (with_reducible exact LeP.refl) | (with_reducible exact ih _ _) | (with_reducible refine le_ite ?_ ?_) | (with_reducible refine le_wantB fun _ => ?_) | (with_reducible refine le_wantK fun _ _ => ?_) | (with_reducible refine le_pb1 (ih _ _) fun _ _ => ?_) | (with_reducible refine le_pb (ih _ _) fun _ _ => ?_)
theorem mm_top {ts : List PT} {f g i : Nat} (ih : ∀ a i, LeP (gr ts f a i) (gr ts g a i)) {a : List Nd} : LeP (gr ts (f + 1) (NT.top a) i) (gr ts (g + 1) (NT.top a) i) := by
  simp only [gr]
  repeat' first | (with_reducible exact LeP.refl) | (with_reducible exact ih _ _) | (with_reducible refine le_ite ?_ ?_) | (with_reducible refine le_wantB fun _ => ?_) | (with_reducible refine le_wantK fun _ _ => ?_) | (with_reducible refine le_pb1 (ih _ _) fun _ _ => ?_) | (with_reducible refine le_pb (ih _ _) fun _ _ => ?_)
theorem mnOk_succ {ts : List PT} {f g : Nat} (ih : MnOk ts f g) : MnOk ts (f + 1) (g + 1) := by
  intro a i
  cases a
  · exact mm_expr ih
  · exact mm_or ih
  · exact mm_and ih
  · exact mm_not ih
  · exact mm_compare ih
  · exact mm_arith ih
  · exact mm_term ih
  · exact mm_factor ih
  · exact mm_primary ih
  · exact mm_atom ih
  · exact mm_exprs ih
  · exact mm_one ih
  · exact mm_places ih
  · exact mm_simple ih
  · exact mm_plain ih
  · exact mm_value ih
  · exact mm_block ih
  · exact mm_stmt ih
  · exact mm_params ih
  · exact mm_row ih
  · exact mm_exprsL ih
  · exact mm_orL ih
  · exact mm_andL ih
  · exact mm_cmpL ih
  · exact mm_arithL ih
  · exact mm_termL ih
  · exact mm_primL ih
  · exact mm_index ih
  · exact mm_clauses ih
  · exact mm_list ih
  · exact mm_braces ih
  · exact mm_dictL ih
  · exact mm_placesL ih
  · exact mm_names ih
  · exact mm_maybe ih
  · exact mm_asgL ih
  · exact mm_blockL ih
  · exact mm_ifs ih
  · exact mm_tries ih
  · exact mm_triesL ih
  · exact mm_triesF ih
  · exact mm_top ih
theorem gr_mn {ts : List PT} : ∀ f, MnOk ts f (f + 1)
  | 0 => fun a i r h => by cases h
  | f + 1 => mnOk_succ (gr_mn f)
theorem gr_mono {ts : List PT} {f g : Nat} (h : f ≤ g) {a : NT} {i : Nat} {r : Except Nat (List Nd × Nat)} (hr : gr ts f a i = some r) : gr ts g a i = some r := by
  induction h with
  | refl => exact hr
  | step _ ih => exact gr_mn _ a i r ih
end Can
end Go.Proofs.Ytnkfdkfmdeibfaa
end
section
namespace Go.Proofs.Ytnkfdkfmdeibfaa
namespace Can
open Go Go.RowKit
set_option linter.unusedSimpArgs false
set_option linter.unusedVariables false
set_option maxRecDepth 4000
noncomputable def GX (f : FuncId) (args : List Value) : Option Value := match args with
  | [.string s, .int .u8 c] => if f = 82 then some (.int .i64 (firstIdx s c.toNat.toUInt8)) else none
  | _ => none
theorem ext_ixb (s : ByteArray) (c : Int) : ExtOk Try.prog 82 [.string s, .int .u8 c] (.int .i64 (firstIdx s c.toNat.toUInt8)) := by
  refine ⟨rfl, rfl, fun w => ?_⟩
  rw [run_callFunc_extern (e := Extern.BytealgIndexByte.indexByte) Try.func82 (by kernel_rfl) (by kernel_rfl) (by kernel_rfl) (by kernel_rfl)]
  have := run_indexByte_string (P := Try.prog) s c w
  rw [show ([Value.string s, .int .u8 c] : List Value).toArray = #[.string s, .int .u8 c] from rfl, this]
  rfl
theorem GX_ok : ∀ f args v, GX f args = some v → PureOk Try.prog f args v := by
  intro f args v h
  unfold GX at h
  split at h
  · split at h
    · rename_i e; subst e; cases h; exact .inr (ext_ixb _ _)
    · cases h
  · cases h
def LG : List FuncId := [82]
noncomputable def GG (f : FuncId) (args : List Value) : Option Value := GX f args
theorem GG_ok : ∀ f args v, GG f args = some v → PureOk Try.prog f args v := GX_ok
theorem tg_ok {B : Nat} : TblOk Try.prog B (tblG Try.prog LG GG) := tblG_ok GG_ok
end Can
end Go.Proofs.Ytnkfdkfmdeibfaa
end
section
namespace Go.Proofs.Ytnkfdkfmdeibfaa
namespace Can
open Go Go.RowKit
set_option linter.unusedSimpArgs false
set_option linter.unusedVariables false
set_option maxRecDepth 4000
def tokV (t : PT) : List Value := [.int .i64 t.kind, .int .i64 t.line, .string ⟨⟨t.text⟩⟩]
def CTk : CRep PT := fun _ cs t => cs = tokV t
def tkC (t : PT) : CObj := .cells (tokV t) 25 .ex
structure Sl where
  q : Option Addr
  n : Nat
  c : Nat
theorem tk_get {K : CH} {q : Option Addr} {c : Nat} {ts : List PT} (h : SlAt 3 CTk K q c ts) {i : Nat} (hi : i < ts.length) : ∃ l o os e kd, q = some ⟨l, o, none⟩ ∧ K.ob l = .cells os e kd ∧ l < K.nx ∧ o + i * 3 + 3 ≤ os.length ∧ (os.drop (o + i * 3)).take 3 = tokV ts[i] ∧ os[o + i * 3 + 1]? = some (.int .i64 ts[i].line) := by
  rcases h with ⟨rfl, _⟩ | ⟨l, o, os, e, kd, rfl, h1, h2, h3, h4, h5, h6⟩
  · cases hi
  · have g : _ = _ := h6 i hi
    refine ⟨l, o, os, e, kd, rfl, h4, h1, by omega, g, ?_⟩
    have : os[o + i * 3 + 1]? = (tokV ts[i])[1]? := by rw [← g, List.getElem?_take_of_lt (by decide), List.getElem?_drop]
    rw [this]; rfl
theorem new_set {K : CH} {o o' : CObj} : (K.new o).set K.nx o' = K.new o' := by
  unfold CH.set CH.new
  congr 1
  funext k
  by_cases h : k = K.nx
  · simp [h]
  · simp [h]
abbrev pS (l : List UInt8) : ByteArray := ⟨⟨l⟩⟩
theorem pstr_get {l : List UInt8} {i : Nat} : (pS l)[i]? = l[i]? := by
  show (if h : i < (pS l).size then some ((pS l)[i]'h) else none) = _
  by_cases h : i < l.length
  · have h' : i < (pS l).size := h
    rw [dif_pos h', List.getElem?_eq_getElem h]; rfl
  · have h' : ¬ i < (pS l).size := h
    rw [dif_neg h', List.getElem?_eq_none (by omega)]
theorem pstr_eq {a b : List UInt8} : svOf (binOp .eql 0 (.string (pS a)) (.string (pS b))) = some (.bool (decide (a = b))) := by
  have h : ((pS a).toList == (pS b).toList) = decide (a = b) := by
    have h : ∀ l : List UInt8, (pS l).toList = l := fun l => by simp [ByteArray.toList_eq]
    rw [h, h]
    by_cases e : a = b
    · simp [e]
    · rw [decide_eq_false e]; simpa using e
  simp only [binOp, Op.stringOp, svOf, Pure.pure, h]
def rpC (sl : Sl) (i : Nat) : CObj := .cells [.slice sl.q sl.n sl.c, .int .i64 (i : Nat)] 43 .ex
structure RpP (K : CH) (p : Nat) (sl : Sl) (ts : List PT) (i : Nat) : Prop where
  ob : K.ob p = rpC sl i
  pl : p < K.nx
  il : i ≤ ts.length
  n : sl.n = ts.length
  tk : SlAt 3 CTk K sl.q sl.c ts
theorem RpP.len {K : CH} {p : Nat} {sl : Sl} {ts : List PT} {i : Nat} (h : RpP K p sl ts i) : ts.length ≤ 9223372036854775807 := by
  rcases h.tk with ⟨rfl, _⟩ | ⟨l, o, os, e, kd, _, _, h2, h3, _⟩
  · simp
  · rw [maxLen_eq] at h3; omega
theorem pnow_wp {K : CH} {p : Nat} {sl : Sl} {ts : List PT} {i : Nat} (h : RpP K p sl ts i) : WpF (tblG Try.prog LG GG) 16 [.pointer (some ⟨p, 0, none⟩)] K fun v K' => v = .agg (tokV (nowT ts i)).toArray ∧ K' = K.new (tkC (nowT ts i)) := by
  have hob := h.ob
  have hpl := h.pl
  have hln := h.len
  have hil := h.il
  unfold rpC at hob
  rw [h.n] at hob
  refine wpF_rG (by rfl) (by kernel_rfl) ?_; (conv in (rF _ _).body => reduce); (conv in (rF _ _).res => reduce)
  by_cases hi : i < ts.length
  · obtain ⟨l, o, os, e, kd, hq, g1, g2, g3, g4, g5⟩ := tk_get h.tk hi
    have hn : nowT ts i = ts[i] := by unfold nowT; rw [List.getElem?_eq_getElem hi]
    rw [hn]
    rw [hq] at hob
    unfold tokV at g4 ⊢
    repeat' (first | (simp (disch := first | omega | (decide +kernel) | (repeat first | assumption | exact HExt.refl _ | refine HExt.set ?_ (by first | omega | (simp only [new_nx, set_nx]; omega)) _ | refine HExt.new ?_ _)) only [↓RD, RU, accW_t, accW_f, isW, ↓putF_get, ↓putF_none, ↓evF_t, ↓evF_c, ↓evF_f, new_nx, set_nx, new_get, set_get, getD_zero, getD_succ, u_not, pop, lop, aop, wop, resL, resV, tupleV, akV, isVal, isCell, Value.cells, ρ0, ρ1, ρ2, ρ3, ρ4, ↓reduceIte, Nat.reduceEqDiff, Nat.reduceAdd, Int.reduceOfNat, Int.reduceNegSucc, reduceCtorEq, ρ5, ρ6, ρ7, ρ8, srcR_c, src_n, src_v, src_s, bnd, lenV, capV, ρ9, ρ10, ρ11, ρ12, ρ13, ρ14, ρ15, ρ16, ρ17, ρ18, ρ19, ρ20, ρ21, ρ22, ρ23, ρ24, Kd.isRo, ρ25, ρ26, bldV, Nat.reduceLeDiff, Int.reduceMul, Int.reduceAdd, Int.reduceSub, Int.reduceToNat, maxLen_eq, zeros_one, appS_some, appV_n, appV_v, appH_t, appH_f, Kd.isEx, ρ27, partV, CH.set_set, lkV, lkR, isKey, mupV, nxtV, ρ28, ρ29, hob, g1, g3, g4]) | (with_reducible first | refine condK_dec (fun _ => ?_) fun _ => ?_ | refine grd_dec (fun _ => ?_) fun _ => ?_ | refine egrd_dec (fun _ => ?_) fun _ => ?_))
    all_goals exact new_set
  · by_cases h0 : 0 < ts.length
    · obtain ⟨l, o, os, e, kd, hq, g1, g2, g3, g4, g5⟩ := tk_get h.tk (i := ts.length - 1) (by omega)
      have hn : nowT ts i = ⟨0, ts[ts.length - 1].line, []⟩ := by
        unfold nowT
        rw [List.getElem?_eq_none (by omega), List.getLast?_eq_getElem?, List.getElem?_eq_getElem (by omega)]
      rw [hn]
      rw [hq] at hob
      have hsub : ((ts.length : Nat) : Int) - 1 = ((ts.length - 1 : Nat) : Int) := by omega
      unfold tokV
      repeat' (first | (simp (disch := first | omega | (decide +kernel) | (repeat first | assumption | exact HExt.refl _ | refine HExt.set ?_ (by first | omega | (simp only [new_nx, set_nx]; omega)) _ | refine HExt.new ?_ _)) only [↓RD, RU, accW_t, accW_f, isW, ↓putF_get, ↓putF_none, ↓evF_t, ↓evF_c, ↓evF_f, new_nx, set_nx, new_get, set_get, getD_zero, getD_succ, u_not, pop, lop, aop, wop, resL, resV, tupleV, akV, isVal, isCell, Value.cells, ρ0, ρ1, ρ2, ρ3, ρ4, ↓reduceIte, Nat.reduceEqDiff, Nat.reduceAdd, Int.reduceOfNat, Int.reduceNegSucc, reduceCtorEq, ρ5, ρ6, ρ7, ρ8, srcR_c, src_n, src_v, src_s, bnd, lenV, capV, ρ9, ρ10, ρ11, ρ12, ρ13, ρ14, ρ15, ρ16, ρ17, ρ18, ρ19, ρ20, ρ21, ρ22, ρ23, ρ24, Kd.isRo, ρ25, ρ26, bldV, Nat.reduceLeDiff, Int.reduceMul, Int.reduceAdd, Int.reduceSub, Int.reduceToNat, maxLen_eq, zeros_one, appS_some, appV_n, appV_v, appH_t, appH_f, Kd.isEx, ρ27, partV, CH.set_set, lkV, lkR, isKey, mupV, nxtV, ρ28, ρ29, hob, g1, g3, g5, hsub]) | (with_reducible first | refine condK_dec (fun _ => ?_) fun _ => ?_ | refine grd_dec (fun _ => ?_) fun _ => ?_ | refine egrd_dec (fun _ => ?_) fun _ => ?_))
      all_goals exact new_set
    · have hts : ts = [] := List.length_eq_zero_iff.1 (by omega)
      have hn : nowT ts i = ⟨0, 0, []⟩ := by subst hts; rfl
      rw [hn]
      unfold tokV
      repeat' (first | (simp (disch := first | omega | (decide +kernel) | (repeat first | assumption | exact HExt.refl _ | refine HExt.set ?_ (by first | omega | (simp only [new_nx, set_nx]; omega)) _ | refine HExt.new ?_ _)) only [↓RD, RU, accW_t, accW_f, isW, ↓putF_get, ↓putF_none, ↓evF_t, ↓evF_c, ↓evF_f, new_nx, set_nx, new_get, set_get, getD_zero, getD_succ, u_not, pop, lop, aop, wop, resL, resV, tupleV, akV, isVal, isCell, Value.cells, ρ0, ρ1, ρ2, ρ3, ρ4, ↓reduceIte, Nat.reduceEqDiff, Nat.reduceAdd, Int.reduceOfNat, Int.reduceNegSucc, reduceCtorEq, ρ5, ρ6, ρ7, ρ8, srcR_c, src_n, src_v, src_s, bnd, lenV, capV, ρ9, ρ10, ρ11, ρ12, ρ13, ρ14, ρ15, ρ16, ρ17, ρ18, ρ19, ρ20, ρ21, ρ22, ρ23, ρ24, Kd.isRo, ρ25, ρ26, bldV, Nat.reduceLeDiff, Int.reduceMul, Int.reduceAdd, Int.reduceSub, Int.reduceToNat, maxLen_eq, zeros_one, appS_some, appV_n, appV_v, appH_t, appH_f, Kd.isEx, ρ27, partV, CH.set_set, lkV, lkR, isKey, mupV, nxtV, ρ28, ρ29, hob, h0]) | (with_reducible first | refine condK_dec (fun _ => ?_) fun _ => ?_ | refine grd_dec (fun _ => ?_) fun _ => ?_ | refine egrd_dec (fun _ => ?_) fun _ => ?_))
      all_goals exact new_set
theorem pnow_iff {K : CH} {p : Nat} {sl : Sl} {ts : List PT} {i : Nat} (h : RpP K p sl ts i) {Q : Value → CH → Prop} : WpF (tblG Try.prog LG GG) 16 [.pointer (some ⟨p, 0, none⟩)] K Q ↔ Q (.agg (tokV (nowT ts i)).toArray) (K.new (tkC (nowT ts i))) := wpF_iff (pnow_wp h)
theorem pisWord_wp (K : CH) {c : UInt8} {s : List UInt8} : WpF (tblG Try.prog LG GG) 49 [.string ⟨⟨c :: s⟩⟩] K fun v K' => v = .bool (isWd (c :: s)) ∧ K' = K := by
  have hg : ((c :: s)[0]?).map (fun b => Value.int .u8 (b.toNat : Int)) = some (.int .u8 (c.toNat : Int)) := rfl
  have hc := c.toNat_lt
  have e : isWd (c :: s) = decide ((65 ≤ c.toNat ∧ c.toNat ≤ 90) ∨ (97 ≤ c.toNat ∧ c.toNat ≤ 122)) := rfl
  rw [e]
  obtain ⟨n, hn⟩ : ∃ n, c.toNat = n := ⟨_, rfl⟩
  rw [hn] at hg hc ⊢
  refine wpF_rG (by rfl) (by kernel_rfl) ?_; (conv in (rF _ _).body => reduce); (conv in (rF _ _).res => reduce)
  by_cases h1 : 65 ≤ n
  · by_cases h2 : n ≤ 90
    · rw [decide_eq_true (by omega)]
      repeat' (first | (simp (disch := first | omega | (decide +kernel) | (repeat first | assumption | exact HExt.refl _ | refine HExt.set ?_ (by first | omega | (simp only [new_nx, set_nx]; omega)) _ | refine HExt.new ?_ _)) only [↓RD, RU, accW_t, accW_f, isW, ↓putF_get, ↓putF_none, ↓evF_t, ↓evF_c, ↓evF_f, new_nx, set_nx, new_get, set_get, getD_zero, getD_succ, u_not, pop, lop, aop, wop, resL, resV, tupleV, akV, isVal, isCell, Value.cells, ρ0, ρ1, ρ2, ρ3, ρ4, ↓reduceIte, Nat.reduceEqDiff, Nat.reduceAdd, Int.reduceOfNat, Int.reduceNegSucc, reduceCtorEq, ρ5, ρ6, ρ7, ρ8, srcR_c, src_n, src_v, src_s, bnd, lenV, capV, ρ9, ρ10, ρ11, ρ12, ρ13, ρ14, ρ15, ρ16, ρ17, ρ18, ρ19, ρ20, ρ21, ρ22, ρ23, ρ24, Kd.isRo, ρ25, ρ26, bldV, Nat.reduceLeDiff, Int.reduceMul, Int.reduceAdd, Int.reduceSub, Int.reduceToNat, maxLen_eq, zeros_one, appS_some, appV_n, appV_v, appH_t, appH_f, Kd.isEx, ρ27, partV, CH.set_set, lkV, lkR, isKey, mupV, nxtV, ρ28, ρ29, pstr_get, hg, h1, h2]) | (with_reducible first | refine condK_dec (fun _ => ?_) fun _ => ?_ | refine grd_dec (fun _ => ?_) fun _ => ?_ | refine egrd_dec (fun _ => ?_) fun _ => ?_))
    · by_cases h3 : 97 ≤ n
      · by_cases h4 : n ≤ 122
        · rw [decide_eq_true (by omega)]
          repeat' (first | (simp (disch := first | omega | (decide +kernel) | (repeat first | assumption | exact HExt.refl _ | refine HExt.set ?_ (by first | omega | (simp only [new_nx, set_nx]; omega)) _ | refine HExt.new ?_ _)) only [↓RD, RU, accW_t, accW_f, isW, ↓putF_get, ↓putF_none, ↓evF_t, ↓evF_c, ↓evF_f, new_nx, set_nx, new_get, set_get, getD_zero, getD_succ, u_not, pop, lop, aop, wop, resL, resV, tupleV, akV, isVal, isCell, Value.cells, ρ0, ρ1, ρ2, ρ3, ρ4, ↓reduceIte, Nat.reduceEqDiff, Nat.reduceAdd, Int.reduceOfNat, Int.reduceNegSucc, reduceCtorEq, ρ5, ρ6, ρ7, ρ8, srcR_c, src_n, src_v, src_s, bnd, lenV, capV, ρ9, ρ10, ρ11, ρ12, ρ13, ρ14, ρ15, ρ16, ρ17, ρ18, ρ19, ρ20, ρ21, ρ22, ρ23, ρ24, Kd.isRo, ρ25, ρ26, bldV, Nat.reduceLeDiff, Int.reduceMul, Int.reduceAdd, Int.reduceSub, Int.reduceToNat, maxLen_eq, zeros_one, appS_some, appV_n, appV_v, appH_t, appH_f, Kd.isEx, ρ27, partV, CH.set_set, lkV, lkR, isKey, mupV, nxtV, ρ28, ρ29, pstr_get, hg, h1, h2, h3, h4]) | (with_reducible first | refine condK_dec (fun _ => ?_) fun _ => ?_ | refine grd_dec (fun _ => ?_) fun _ => ?_ | refine egrd_dec (fun _ => ?_) fun _ => ?_))
        · rw [decide_eq_false (by omega)]
          repeat' (first | (simp (disch := first | omega | (decide +kernel) | (repeat first | assumption | exact HExt.refl _ | refine HExt.set ?_ (by first | omega | (simp only [new_nx, set_nx]; omega)) _ | refine HExt.new ?_ _)) only [↓RD, RU, accW_t, accW_f, isW, ↓putF_get, ↓putF_none, ↓evF_t, ↓evF_c, ↓evF_f, new_nx, set_nx, new_get, set_get, getD_zero, getD_succ, u_not, pop, lop, aop, wop, resL, resV, tupleV, akV, isVal, isCell, Value.cells, ρ0, ρ1, ρ2, ρ3, ρ4, ↓reduceIte, Nat.reduceEqDiff, Nat.reduceAdd, Int.reduceOfNat, Int.reduceNegSucc, reduceCtorEq, ρ5, ρ6, ρ7, ρ8, srcR_c, src_n, src_v, src_s, bnd, lenV, capV, ρ9, ρ10, ρ11, ρ12, ρ13, ρ14, ρ15, ρ16, ρ17, ρ18, ρ19, ρ20, ρ21, ρ22, ρ23, ρ24, Kd.isRo, ρ25, ρ26, bldV, Nat.reduceLeDiff, Int.reduceMul, Int.reduceAdd, Int.reduceSub, Int.reduceToNat, maxLen_eq, zeros_one, appS_some, appV_n, appV_v, appH_t, appH_f, Kd.isEx, ρ27, partV, CH.set_set, lkV, lkR, isKey, mupV, nxtV, ρ28, ρ29, pstr_get, hg, h1, h2, h3, h4]) | (with_reducible first | refine condK_dec (fun _ => ?_) fun _ => ?_ | refine grd_dec (fun _ => ?_) fun _ => ?_ | refine egrd_dec (fun _ => ?_) fun _ => ?_))
      · rw [decide_eq_false (by omega)]
        repeat' (first | (simp (disch := first | omega | (decide +kernel) | (repeat first | assumption | exact HExt.refl _ | refine HExt.set ?_ (by first | omega | (simp only [new_nx, set_nx]; omega)) _ | refine HExt.new ?_ _)) only [↓RD, RU, accW_t, accW_f, isW, ↓putF_get, ↓putF_none, ↓evF_t, ↓evF_c, ↓evF_f, new_nx, set_nx, new_get, set_get, getD_zero, getD_succ, u_not, pop, lop, aop, wop, resL, resV, tupleV, akV, isVal, isCell, Value.cells, ρ0, ρ1, ρ2, ρ3, ρ4, ↓reduceIte, Nat.reduceEqDiff, Nat.reduceAdd, Int.reduceOfNat, Int.reduceNegSucc, reduceCtorEq, ρ5, ρ6, ρ7, ρ8, srcR_c, src_n, src_v, src_s, bnd, lenV, capV, ρ9, ρ10, ρ11, ρ12, ρ13, ρ14, ρ15, ρ16, ρ17, ρ18, ρ19, ρ20, ρ21, ρ22, ρ23, ρ24, Kd.isRo, ρ25, ρ26, bldV, Nat.reduceLeDiff, Int.reduceMul, Int.reduceAdd, Int.reduceSub, Int.reduceToNat, maxLen_eq, zeros_one, appS_some, appV_n, appV_v, appH_t, appH_f, Kd.isEx, ρ27, partV, CH.set_set, lkV, lkR, isKey, mupV, nxtV, ρ28, ρ29, pstr_get, hg, h1, h2, h3]) | (with_reducible first | refine condK_dec (fun _ => ?_) fun _ => ?_ | refine grd_dec (fun _ => ?_) fun _ => ?_ | refine egrd_dec (fun _ => ?_) fun _ => ?_))
  · rw [decide_eq_false (by omega)]
    have h3 : ¬ 97 ≤ n := by omega
    repeat' (first | (simp (disch := first | omega | (decide +kernel) | (repeat first | assumption | exact HExt.refl _ | refine HExt.set ?_ (by first | omega | (simp only [new_nx, set_nx]; omega)) _ | refine HExt.new ?_ _)) only [↓RD, RU, accW_t, accW_f, isW, ↓putF_get, ↓putF_none, ↓evF_t, ↓evF_c, ↓evF_f, new_nx, set_nx, new_get, set_get, getD_zero, getD_succ, u_not, pop, lop, aop, wop, resL, resV, tupleV, akV, isVal, isCell, Value.cells, ρ0, ρ1, ρ2, ρ3, ρ4, ↓reduceIte, Nat.reduceEqDiff, Nat.reduceAdd, Int.reduceOfNat, Int.reduceNegSucc, reduceCtorEq, ρ5, ρ6, ρ7, ρ8, srcR_c, src_n, src_v, src_s, bnd, lenV, capV, ρ9, ρ10, ρ11, ρ12, ρ13, ρ14, ρ15, ρ16, ρ17, ρ18, ρ19, ρ20, ρ21, ρ22, ρ23, ρ24, Kd.isRo, ρ25, ρ26, bldV, Nat.reduceLeDiff, Int.reduceMul, Int.reduceAdd, Int.reduceSub, Int.reduceToNat, maxLen_eq, zeros_one, appS_some, appV_n, appV_v, appH_t, appH_f, Kd.isEx, ρ27, partV, CH.set_set, lkV, lkR, isKey, mupV, nxtV, ρ28, ρ29, pstr_get, hg, h1, h3]) | (with_reducible first | refine condK_dec (fun _ => ?_) fun _ => ?_ | refine grd_dec (fun _ => ?_) fun _ => ?_ | refine egrd_dec (fun _ => ?_) fun _ => ?_))
theorem pisWord_iff {K : CH} {c : UInt8} {s : List UInt8} {Q : Value → CH → Prop} : WpF (tblG Try.prog LG GG) 49 [.string ⟨⟨c :: s⟩⟩] K Q ↔ Q (.bool (isWd (c :: s))) K := wpF_iff (pisWord_wp K)
theorem pis_wp {K : CH} {p : Nat} {sl : Sl} {ts : List PT} {i : Nat} (h : RpP K p sl ts i) {c1 : UInt8} {s : List UInt8} : WpF (tblG Try.prog LG GG) 35 [.pointer (some ⟨p, 0, none⟩), .string ⟨⟨c1 :: s⟩⟩] K fun v K' => v = .bool (isT ts i (c1 :: s)) ∧ K' = (K.new (tkC (nowT ts i))).new (tkC (nowT ts i)) := by
  have hob := h.ob
  have hpl := h.pl
  have hnow := fun Q => @pnow_iff K p sl ts i h Q
  obtain ⟨t, ht⟩ : ∃ t, nowT ts i = t := ⟨_, rfl⟩
  unfold rpC at hob
  rw [ht] at hnow
  unfold isT
  rw [ht]
  obtain ⟨kd, ln, tx⟩ := t
  obtain ⟨G, hG⟩ : ∃ G, K.new (tkC ⟨kd, ln, tx⟩) = G := ⟨_, rfl⟩
  rw [hG] at hnow ⊢
  unfold tokV at hnow
  have fin : G.new (.cells [.int .i64 kd, .int .i64 ln, .string ⟨⟨tx⟩⟩] 25 .ex) = G.new (tkC ⟨kd, ln, tx⟩) := rfl
  refine wpF_rG (by rfl) (by kernel_rfl) ?_; (conv in (rF _ _).body => reduce); (conv in (rF _ _).res => reduce)
  by_cases k8 : kd = 8
  · subst k8
    by_cases e : tx = c1 :: s
    · have hd := decide_eq_true e
      have hw := fun K Q => @pisWord_iff K c1 s Q
      cases hW : isWd (c1 :: s) with
      | true =>
        rw [hW] at hw
        rw [decide_eq_true ⟨.inl rfl, e, rfl⟩]
        repeat' (first | (simp (disch := first | omega | (decide +kernel) | (repeat first | assumption | exact HExt.refl _ | refine HExt.set ?_ (by first | omega | (simp only [new_nx, set_nx]; omega)) _ | refine HExt.new ?_ _)) only [↓RD, RU, accW_t, accW_f, isW, ↓putF_get, ↓putF_none, ↓evF_t, ↓evF_c, ↓evF_f, new_nx, set_nx, new_get, set_get, getD_zero, getD_succ, u_not, pop, lop, aop, wop, resL, resV, tupleV, akV, isVal, isCell, Value.cells, ρ0, ρ1, ρ2, ρ3, ρ4, ↓reduceIte, Nat.reduceEqDiff, Nat.reduceAdd, Int.reduceOfNat, Int.reduceNegSucc, reduceCtorEq, ρ5, ρ6, ρ7, ρ8, srcR_c, src_n, src_v, src_s, bnd, lenV, capV, ρ9, ρ10, ρ11, ρ12, ρ13, ρ14, ρ15, ρ16, ρ17, ρ18, ρ19, ρ20, ρ21, ρ22, ρ23, ρ24, Kd.isRo, ρ25, ρ26, bldV, Nat.reduceLeDiff, Int.reduceMul, Int.reduceAdd, Int.reduceSub, Int.reduceToNat, maxLen_eq, zeros_one, appS_some, appV_n, appV_v, appH_t, appH_f, Kd.isEx, ρ27, partV, CH.set_set, lkV, lkR, isKey, mupV, nxtV, ρ28, ρ29, hnow, new_set, pstr_eq, hd, hw]) | (with_reducible first | refine condK_dec (fun _ => ?_) fun _ => ?_ | refine grd_dec (fun _ => ?_) fun _ => ?_ | refine egrd_dec (fun _ => ?_) fun _ => ?_))
        all_goals exact fin
      | false =>
        rw [hW] at hw
        rw [decide_eq_false (by simp)]
        repeat' (first | (simp (disch := first | omega | (decide +kernel) | (repeat first | assumption | exact HExt.refl _ | refine HExt.set ?_ (by first | omega | (simp only [new_nx, set_nx]; omega)) _ | refine HExt.new ?_ _)) only [↓RD, RU, accW_t, accW_f, isW, ↓putF_get, ↓putF_none, ↓evF_t, ↓evF_c, ↓evF_f, new_nx, set_nx, new_get, set_get, getD_zero, getD_succ, u_not, pop, lop, aop, wop, resL, resV, tupleV, akV, isVal, isCell, Value.cells, ρ0, ρ1, ρ2, ρ3, ρ4, ↓reduceIte, Nat.reduceEqDiff, Nat.reduceAdd, Int.reduceOfNat, Int.reduceNegSucc, reduceCtorEq, ρ5, ρ6, ρ7, ρ8, srcR_c, src_n, src_v, src_s, bnd, lenV, capV, ρ9, ρ10, ρ11, ρ12, ρ13, ρ14, ρ15, ρ16, ρ17, ρ18, ρ19, ρ20, ρ21, ρ22, ρ23, ρ24, Kd.isRo, ρ25, ρ26, bldV, Nat.reduceLeDiff, Int.reduceMul, Int.reduceAdd, Int.reduceSub, Int.reduceToNat, maxLen_eq, zeros_one, appS_some, appV_n, appV_v, appH_t, appH_f, Kd.isEx, ρ27, partV, CH.set_set, lkV, lkR, isKey, mupV, nxtV, ρ28, ρ29, hnow, new_set, pstr_eq, hd, hw]) | (with_reducible first | refine condK_dec (fun _ => ?_) fun _ => ?_ | refine grd_dec (fun _ => ?_) fun _ => ?_ | refine egrd_dec (fun _ => ?_) fun _ => ?_))
        all_goals exact fin
    · have hd := decide_eq_false e
      rw [decide_eq_false (fun g => e g.2.1)]
      repeat' (first | (simp (disch := first | omega | (decide +kernel) | (repeat first | assumption | exact HExt.refl _ | refine HExt.set ?_ (by first | omega | (simp only [new_nx, set_nx]; omega)) _ | refine HExt.new ?_ _)) only [↓RD, RU, accW_t, accW_f, isW, ↓putF_get, ↓putF_none, ↓evF_t, ↓evF_c, ↓evF_f, new_nx, set_nx, new_get, set_get, getD_zero, getD_succ, u_not, pop, lop, aop, wop, resL, resV, tupleV, akV, isVal, isCell, Value.cells, ρ0, ρ1, ρ2, ρ3, ρ4, ↓reduceIte, Nat.reduceEqDiff, Nat.reduceAdd, Int.reduceOfNat, Int.reduceNegSucc, reduceCtorEq, ρ5, ρ6, ρ7, ρ8, srcR_c, src_n, src_v, src_s, bnd, lenV, capV, ρ9, ρ10, ρ11, ρ12, ρ13, ρ14, ρ15, ρ16, ρ17, ρ18, ρ19, ρ20, ρ21, ρ22, ρ23, ρ24, Kd.isRo, ρ25, ρ26, bldV, Nat.reduceLeDiff, Int.reduceMul, Int.reduceAdd, Int.reduceSub, Int.reduceToNat, maxLen_eq, zeros_one, appS_some, appV_n, appV_v, appH_t, appH_f, Kd.isEx, ρ27, partV, CH.set_set, lkV, lkR, isKey, mupV, nxtV, ρ28, ρ29, hnow, new_set, pstr_eq, hd]) | (with_reducible first | refine condK_dec (fun _ => ?_) fun _ => ?_ | refine grd_dec (fun _ => ?_) fun _ => ?_ | refine egrd_dec (fun _ => ?_) fun _ => ?_))
      all_goals exact fin
  · by_cases k9 : kd = 9
    · subst k9
      by_cases e : tx = c1 :: s
      · have hd := decide_eq_true e
        have hw := fun K Q => @pisWord_iff K c1 s Q
        cases hW : isWd (c1 :: s) with
        | true =>
          rw [hW] at hw
          rw [decide_eq_false (by simp)]
          repeat' (first | (simp (disch := first | omega | (decide +kernel) | (repeat first | assumption | exact HExt.refl _ | refine HExt.set ?_ (by first | omega | (simp only [new_nx, set_nx]; omega)) _ | refine HExt.new ?_ _)) only [↓RD, RU, accW_t, accW_f, isW, ↓putF_get, ↓putF_none, ↓evF_t, ↓evF_c, ↓evF_f, new_nx, set_nx, new_get, set_get, getD_zero, getD_succ, u_not, pop, lop, aop, wop, resL, resV, tupleV, akV, isVal, isCell, Value.cells, ρ0, ρ1, ρ2, ρ3, ρ4, ↓reduceIte, Nat.reduceEqDiff, Nat.reduceAdd, Int.reduceOfNat, Int.reduceNegSucc, reduceCtorEq, ρ5, ρ6, ρ7, ρ8, srcR_c, src_n, src_v, src_s, bnd, lenV, capV, ρ9, ρ10, ρ11, ρ12, ρ13, ρ14, ρ15, ρ16, ρ17, ρ18, ρ19, ρ20, ρ21, ρ22, ρ23, ρ24, Kd.isRo, ρ25, ρ26, bldV, Nat.reduceLeDiff, Int.reduceMul, Int.reduceAdd, Int.reduceSub, Int.reduceToNat, maxLen_eq, zeros_one, appS_some, appV_n, appV_v, appH_t, appH_f, Kd.isEx, ρ27, partV, CH.set_set, lkV, lkR, isKey, mupV, nxtV, ρ28, ρ29, hnow, new_set, pstr_eq, hd, hw]) | (with_reducible first | refine condK_dec (fun _ => ?_) fun _ => ?_ | refine grd_dec (fun _ => ?_) fun _ => ?_ | refine egrd_dec (fun _ => ?_) fun _ => ?_))
          all_goals exact fin
        | false =>
          rw [hW] at hw
          rw [decide_eq_true ⟨.inr rfl, e, by simp⟩]
          repeat' (first | (simp (disch := first | omega | (decide +kernel) | (repeat first | assumption | exact HExt.refl _ | refine HExt.set ?_ (by first | omega | (simp only [new_nx, set_nx]; omega)) _ | refine HExt.new ?_ _)) only [↓RD, RU, accW_t, accW_f, isW, ↓putF_get, ↓putF_none, ↓evF_t, ↓evF_c, ↓evF_f, new_nx, set_nx, new_get, set_get, getD_zero, getD_succ, u_not, pop, lop, aop, wop, resL, resV, tupleV, akV, isVal, isCell, Value.cells, ρ0, ρ1, ρ2, ρ3, ρ4, ↓reduceIte, Nat.reduceEqDiff, Nat.reduceAdd, Int.reduceOfNat, Int.reduceNegSucc, reduceCtorEq, ρ5, ρ6, ρ7, ρ8, srcR_c, src_n, src_v, src_s, bnd, lenV, capV, ρ9, ρ10, ρ11, ρ12, ρ13, ρ14, ρ15, ρ16, ρ17, ρ18, ρ19, ρ20, ρ21, ρ22, ρ23, ρ24, Kd.isRo, ρ25, ρ26, bldV, Nat.reduceLeDiff, Int.reduceMul, Int.reduceAdd, Int.reduceSub, Int.reduceToNat, maxLen_eq, zeros_one, appS_some, appV_n, appV_v, appH_t, appH_f, Kd.isEx, ρ27, partV, CH.set_set, lkV, lkR, isKey, mupV, nxtV, ρ28, ρ29, hnow, new_set, pstr_eq, hd, hw]) | (with_reducible first | refine condK_dec (fun _ => ?_) fun _ => ?_ | refine grd_dec (fun _ => ?_) fun _ => ?_ | refine egrd_dec (fun _ => ?_) fun _ => ?_))
          all_goals exact fin
      · have hd := decide_eq_false e
        rw [decide_eq_false (fun g => e g.2.1)]
        repeat' (first | (simp (disch := first | omega | (decide +kernel) | (repeat first | assumption | exact HExt.refl _ | refine HExt.set ?_ (by first | omega | (simp only [new_nx, set_nx]; omega)) _ | refine HExt.new ?_ _)) only [↓RD, RU, accW_t, accW_f, isW, ↓putF_get, ↓putF_none, ↓evF_t, ↓evF_c, ↓evF_f, new_nx, set_nx, new_get, set_get, getD_zero, getD_succ, u_not, pop, lop, aop, wop, resL, resV, tupleV, akV, isVal, isCell, Value.cells, ρ0, ρ1, ρ2, ρ3, ρ4, ↓reduceIte, Nat.reduceEqDiff, Nat.reduceAdd, Int.reduceOfNat, Int.reduceNegSucc, reduceCtorEq, ρ5, ρ6, ρ7, ρ8, srcR_c, src_n, src_v, src_s, bnd, lenV, capV, ρ9, ρ10, ρ11, ρ12, ρ13, ρ14, ρ15, ρ16, ρ17, ρ18, ρ19, ρ20, ρ21, ρ22, ρ23, ρ24, Kd.isRo, ρ25, ρ26, bldV, Nat.reduceLeDiff, Int.reduceMul, Int.reduceAdd, Int.reduceSub, Int.reduceToNat, maxLen_eq, zeros_one, appS_some, appV_n, appV_v, appH_t, appH_f, Kd.isEx, ρ27, partV, CH.set_set, lkV, lkR, isKey, mupV, nxtV, ρ28, ρ29, hnow, new_set, pstr_eq, hd]) | (with_reducible first | refine condK_dec (fun _ => ?_) fun _ => ?_ | refine grd_dec (fun _ => ?_) fun _ => ?_ | refine egrd_dec (fun _ => ?_) fun _ => ?_))
        all_goals exact fin
    · rw [decide_eq_false (fun g => g.1.elim k8 k9)]
      repeat' (first | (simp (disch := first | omega | (decide +kernel) | (repeat first | assumption | exact HExt.refl _ | refine HExt.set ?_ (by first | omega | (simp only [new_nx, set_nx]; omega)) _ | refine HExt.new ?_ _)) only [↓RD, RU, accW_t, accW_f, isW, ↓putF_get, ↓putF_none, ↓evF_t, ↓evF_c, ↓evF_f, new_nx, set_nx, new_get, set_get, getD_zero, getD_succ, u_not, pop, lop, aop, wop, resL, resV, tupleV, akV, isVal, isCell, Value.cells, ρ0, ρ1, ρ2, ρ3, ρ4, ↓reduceIte, Nat.reduceEqDiff, Nat.reduceAdd, Int.reduceOfNat, Int.reduceNegSucc, reduceCtorEq, ρ5, ρ6, ρ7, ρ8, srcR_c, src_n, src_v, src_s, bnd, lenV, capV, ρ9, ρ10, ρ11, ρ12, ρ13, ρ14, ρ15, ρ16, ρ17, ρ18, ρ19, ρ20, ρ21, ρ22, ρ23, ρ24, Kd.isRo, ρ25, ρ26, bldV, Nat.reduceLeDiff, Int.reduceMul, Int.reduceAdd, Int.reduceSub, Int.reduceToNat, maxLen_eq, zeros_one, appS_some, appV_n, appV_v, appH_t, appH_f, Kd.isEx, ρ27, partV, CH.set_set, lkV, lkR, isKey, mupV, nxtV, ρ28, ρ29, hnow, new_set, k8, k9]) | (with_reducible first | refine condK_dec (fun _ => ?_) fun _ => ?_ | refine grd_dec (fun _ => ?_) fun _ => ?_ | refine egrd_dec (fun _ => ?_) fun _ => ?_))
      all_goals exact fin
theorem pkind_wp {K : CH} {p : Nat} {sl : Sl} {ts : List PT} {i : Nat} (h : RpP K p sl ts i) {k : Int} : WpF (tblG Try.prog LG GG) 38 [.pointer (some ⟨p, 0, none⟩), .int .i64 k] K fun v K' => v = .bool (decide ((nowT ts i).kind = k)) ∧ K' = K.new (tkC (nowT ts i)) := by
  have hob := h.ob
  have hpl := h.pl
  have hnow := fun Q => @pnow_iff K p sl ts i h Q
  obtain ⟨t, ht⟩ : ∃ t, nowT ts i = t := ⟨_, rfl⟩
  unfold rpC at hob
  rw [ht] at hnow ⊢
  obtain ⟨kd, ln, tx⟩ := t
  unfold tokV at hnow
  refine wpF_rG (by rfl) (by kernel_rfl) ?_; (conv in (rF _ _).body => reduce); (conv in (rF _ _).res => reduce)
  by_cases hk : kd = k
  · rw [decide_eq_true hk]
    subst hk
    repeat' (first | (simp (disch := first | omega | (decide +kernel) | (repeat first | assumption | exact HExt.refl _ | refine HExt.set ?_ (by first | omega | (simp only [new_nx, set_nx]; omega)) _ | refine HExt.new ?_ _)) only [↓RD, RU, accW_t, accW_f, isW, ↓putF_get, ↓putF_none, ↓evF_t, ↓evF_c, ↓evF_f, new_nx, set_nx, new_get, set_get, getD_zero, getD_succ, u_not, pop, lop, aop, wop, resL, resV, tupleV, akV, isVal, isCell, Value.cells, ρ0, ρ1, ρ2, ρ3, ρ4, ↓reduceIte, Nat.reduceEqDiff, Nat.reduceAdd, Int.reduceOfNat, Int.reduceNegSucc, reduceCtorEq, ρ5, ρ6, ρ7, ρ8, srcR_c, src_n, src_v, src_s, bnd, lenV, capV, ρ9, ρ10, ρ11, ρ12, ρ13, ρ14, ρ15, ρ16, ρ17, ρ18, ρ19, ρ20, ρ21, ρ22, ρ23, ρ24, Kd.isRo, ρ25, ρ26, bldV, Nat.reduceLeDiff, Int.reduceMul, Int.reduceAdd, Int.reduceSub, Int.reduceToNat, maxLen_eq, zeros_one, appS_some, appV_n, appV_v, appH_t, appH_f, Kd.isEx, ρ27, partV, CH.set_set, lkV, lkR, isKey, mupV, nxtV, ρ28, ρ29, hob, hnow]) | (with_reducible first | refine condK_dec (fun _ => ?_) fun _ => ?_ | refine grd_dec (fun _ => ?_) fun _ => ?_ | refine egrd_dec (fun _ => ?_) fun _ => ?_))
    all_goals rfl
  · rw [decide_eq_false hk]
    repeat' (first | (simp (disch := first | omega | (decide +kernel) | (repeat first | assumption | exact HExt.refl _ | refine HExt.set ?_ (by first | omega | (simp only [new_nx, set_nx]; omega)) _ | refine HExt.new ?_ _)) only [↓RD, RU, accW_t, accW_f, isW, ↓putF_get, ↓putF_none, ↓evF_t, ↓evF_c, ↓evF_f, new_nx, set_nx, new_get, set_get, getD_zero, getD_succ, u_not, pop, lop, aop, wop, resL, resV, tupleV, akV, isVal, isCell, Value.cells, ρ0, ρ1, ρ2, ρ3, ρ4, ↓reduceIte, Nat.reduceEqDiff, Nat.reduceAdd, Int.reduceOfNat, Int.reduceNegSucc, reduceCtorEq, ρ5, ρ6, ρ7, ρ8, srcR_c, src_n, src_v, src_s, bnd, lenV, capV, ρ9, ρ10, ρ11, ρ12, ρ13, ρ14, ρ15, ρ16, ρ17, ρ18, ρ19, ρ20, ρ21, ρ22, ρ23, ρ24, Kd.isRo, ρ25, ρ26, bldV, Nat.reduceLeDiff, Int.reduceMul, Int.reduceAdd, Int.reduceSub, Int.reduceToNat, maxLen_eq, zeros_one, appS_some, appV_n, appV_v, appH_t, appH_f, Kd.isEx, ρ27, partV, CH.set_set, lkV, lkR, isKey, mupV, nxtV, ρ28, ρ29, hob, hnow, hk]) | (with_reducible first | refine condK_dec (fun _ => ?_) fun _ => ?_ | refine grd_dec (fun _ => ?_) fun _ => ?_ | refine egrd_dec (fun _ => ?_) fun _ => ?_))
    all_goals rfl
theorem pnode_wp {K : CH} {k l : Int} {a : Option Addr} {n c : Nat} : WpF (tblG Try.prog LG GG) 15 [.int .i64 k, .int .i64 l, .slice a n c] K fun v K' => v = .agg #[.int .i64 k, .int .i64 l, .string ⟨⟨[]⟩⟩, .int .i64 0, .slice a n c] ∧ ∃ o, K' = K.new o := by
  refine wpF_rG (by rfl) (by kernel_rfl) ?_; (conv in (rF _ _).body => reduce); (conv in (rF _ _).res => reduce)
  repeat' (first | (simp (disch := first | omega | (decide +kernel) | (repeat first | assumption | exact HExt.refl _ | refine HExt.set ?_ (by first | omega | (simp only [new_nx, set_nx]; omega)) _ | refine HExt.new ?_ _)) only [↓RD, RU, accW_t, accW_f, isW, ↓putF_get, ↓putF_none, ↓evF_t, ↓evF_c, ↓evF_f, new_nx, set_nx, new_get, set_get, getD_zero, getD_succ, u_not, pop, lop, aop, wop, resL, resV, tupleV, akV, isVal, isCell, Value.cells, ρ0, ρ1, ρ2, ρ3, ρ4, ↓reduceIte, Nat.reduceEqDiff, Nat.reduceAdd, Int.reduceOfNat, Int.reduceNegSucc, reduceCtorEq, ρ5, ρ6, ρ7, ρ8, srcR_c, src_n, src_v, src_s, bnd, lenV, capV, ρ9, ρ10, ρ11, ρ12, ρ13, ρ14, ρ15, ρ16, ρ17, ρ18, ρ19, ρ20, ρ21, ρ22, ρ23, ρ24, Kd.isRo, ρ25, ρ26, bldV, Nat.reduceLeDiff, Int.reduceMul, Int.reduceAdd, Int.reduceSub, Int.reduceToNat, maxLen_eq, zeros_one, appS_some, appV_n, appV_v, appH_t, appH_f, Kd.isEx, ρ27, partV, CH.set_set, lkV, lkR, isKey, mupV, nxtV, ρ28, ρ29, new_set]) | (with_reducible first | refine condK_dec (fun _ => ?_) fun _ => ?_ | refine grd_dec (fun _ => ?_) fun _ => ?_ | refine egrd_dec (fun _ => ?_) fun _ => ?_))
  all_goals exact ⟨_, rfl⟩
end Can
end Go.Proofs.Ytnkfdkfmdeibfaa
end
section
namespace Go.Proofs.Ytnkfdkfmdeibfaa
namespace Can
open Go Go.RowKit
set_option linter.unusedSimpArgs false
set_option linter.unusedVariables false
set_option maxRecDepth 4000
mutual
def ndS : Nd → List SV
  | .mk k l x o ks => [.sc (.int .i64 (k : Nat)), .sc (.int .i64 l), .sc (.string ⟨⟨x⟩⟩), .sc (.int .i64 (o : Nat)), .row 5 (ndsS ks)]
def ndsS : List Nd → List (List SV)
  | [] => []
  | n :: ks => ndS n :: ndsS ks
end
theorem ndsS_app : ∀ {a b : List Nd}, ndsS (a ++ b) = ndsS a ++ ndsS b
  | [], b => rfl
  | n :: a, b => by simp only [List.cons_append, ndsS, ndsS_app]
theorem ndsS_len : ∀ {a : List Nd}, (ndsS a).length = a.length
  | [] => rfl
  | n :: a => by simp only [ndsS, List.length_cons, ndsS_len]
theorem ndS_len {t : Nd} : (ndS t).length = 5 := by cases t; rfl
theorem ndsS_get : ∀ {a : List Nd} {i : Nat} {t : Nd}, a[i]? = some t → (ndsS a)[i]? = some (ndS t)
  | [], i, t, h => by simp at h
  | n :: a, 0, t, h => by simp at h; subst h; rfl
  | n :: a, i + 1, t, h => by simpa [ndsS] using ndsS_get (a := a) (i := i) (by simpa using h)
def ndA (t : Nd) : AV := .r (.agg ((ndS t).map .s))
def tokA (t : PT) : AV := .r (.agg [cS (.int .i64 t.kind), cS (.int .i64 t.line), cS (.string ⟨⟨t.text⟩⟩)])
structure TkZ (Z : TP) (sl : Sl) (ts : List PT) : Prop where
  n : sl.n = ts.length
  q : ∀ l o, sl.q = some ⟨l, o, none⟩ → Z.N l
  tk : ∀ K : CH, (∀ b, Z.N b → b < K.nx ∧ K.ob b = Z.M b) → SlAt 3 CTk K sl.q sl.c ts
theorem tokA_rel {K : CH} {E : TE} {t : PT} : AVR K E (tokA t) (.agg (tokV t).toArray) := .r (.agg (vs := tokV t) (.cons (.s (.sc rfl)) (.cons (.s (.sc rfl)) (.cons (.s (.sc rfl)) .nil))))
theorem rS_rel {K : CH} {E : TE} {v : Value} (h : isCell v = true) : AVR K E (rS v) v := .r (.c (.s (.sc h)))
theorem r2_rS {K : CH} {E : TE} : ∀ {L : List Value} {vs : List Value}, R2 (AVR K E) (L.map rS) vs → vs = L
  | [], _, .nil => rfl
  | v :: L, _, .cons h t => by rw [r2_rS t, raw_rel h rfl]
theorem tc_self {Z : TP} {T : Tbl} {X : Pan} {f : FuncId} {args : List AV} {e : TypeId} {s s' : List SV} {Q : AV → List SV → Prop} {R : Value → Prop} (h : s = s') (g : TC Z T X f args (some (e, s')) Q R) : TC Z T X f args (some (e, s)) Q R := by rw [h]; exact g
theorem wr_inc {i n : Nat} (h : i < n) (hn : n ≤ 4398046510976) : (IntKind.wrap .i64 ((i : Int) + 1)) = ((i + 1 : Nat) : Int) := by
  rw [w_i64 (by omega) (by omega)]; omega
def rdS (sl : Sl) (i : Nat) : List SV := [.sc (.slice sl.q sl.n sl.c), .sc (.int .i64 (i : Nat))]
abbrev rdR (sl : Sl) (i : Nat) : Self := some (43, rdS sl i)
theorem self_inv {K : CH} {E : TE} {sp : Option Nat} {sl : Sl} {i : Nat} (h : SelfR K E sp (rdR sl i)) : ∃ p, sp = some p ∧ p < K.nx ∧ K.ob p = rpC sl i := by
  obtain ⟨p, os, h1, h2, h3, h4⟩ := h
  refine ⟨p, h1, h2, ?_⟩
  rw [h3]
  cases h4 with
  | cons a h4 => cases h4 with
    | cons b h4 => cases h4; cases a; cases b; rfl
theorem self_mk {K : CH} {E : TE} {p : Nat} {sl : Sl} {i : Nat} (h : p < K.nx) (ho : K.ob p = rpC sl i) : SelfR K E (some p) (rdR sl i) := ⟨p, _, rfl, h, ho, .cons (.sc rfl) (.cons (.sc rfl) .nil)⟩
theorem tc_rd {Z : TP} {X : Pan} {sl : Sl} {ts : List PT} (hZ : TkZ Z sl ts) {f : FuncId} {L : List Value} {i j : Nat} {a : AV} {V : Value} {Q : AV → List SV → Prop} {R : Value → Prop} (hi : i ≤ ts.length) (hV : ∀ K E, AVR K E a V) (hc : a.clean)
    (h : ∀ K p, RpP K p sl ts i → WpF (tblG Try.prog LG GG) f (.pointer (some ⟨p, 0, none⟩) :: L) K fun v K' => v = V ∧ K.nx ≤ K'.nx ∧ (∀ b, b < K.nx → b ≠ p → K'.ob b = K.ob b) ∧ K'.ob p = rpC sl j) (hQ : Q a (rdS sl j)) : TC Z (tblG Try.prog LG GG) X f (.ptr 0 0 :: L.map rS) (rdR sl i) Q R := by
  intro K sp hid vs h1 h2 h3 h4
  obtain ⟨p, rfl, hp, ho⟩ := self_inv h4
  have hvs : vs = .pointer (some ⟨p, 0, none⟩) :: L := by
    cases h3 with
    | cons g1 g2 =>
      obtain ⟨l, q1, q2⟩ := g1.ptr_inv
      have q1 : some p = some l := q1
      cases q1
      rw [q2, r2_rS g2]
  subst hvs
  left
  refine (h K p ⟨ho, hp, hi, hZ.n, hZ.tk K fun b hb => ⟨(h2 b hb).1, (h2 b hb).2.2⟩⟩).mono fun v K' ⟨e1, e2, e3, e4⟩ => ?_
  subst e1
  exact ⟨e2, fun b hb hs => e3 b hb fun e => hs (by rw [e]), a, rdS sl j, hV _ _, hc, self_mk (Nat.lt_of_lt_of_le hp e2) e4, hQ⟩
structure PCtx (Z : TP) (X : Pan) (W : Int → Value) (ts : List PT) (sl : Sl) : Prop where
  tkz : TkZ Z sl ts
  fail : ∀ (i : Nat) (Q : AV → List SV → Prop) (R : Value → Prop), i ≤ ts.length → R (W (nowT ts i).line) → TC Z (tblG Try.prog LG GG) X 37 [.ptr 0 0] (rdR sl i) Q R
  len : ts.length ≤ 4398046510976
def DT : TD := ⟨[15]⟩
theorem dt_ok : TDOk (tblG Try.prog LG GG) DT := ⟨fun f hf K k l a n c => by
  have : f = 15 := by
    simp only [DT, List.elem_cons, List.elem_nil] at hf
    split at hf
    · rename_i h; exact eq_of_beq h
    · cases hf
  subst this
  exact pnode_wp⟩
section
variable {Z : TP} {X : Pan} {W : Int → Value} {ts : List PT} {sl : Sl} {R : Value → Prop} {Q : AV → List SV → Prop} {E : Nat → Prop} {P : List Nd → Nat → Prop} {i : Nat}
theorem now_tc (C : PCtx Z X W ts sl) (hi : i ≤ ts.length) (hQ : Q (tokA (nowT ts i)) (rdS sl i)) : TC Z (tblG Try.prog LG GG) X 16 [.ptr 0 0] (rdR sl i) Q R :=
  tc_rd C.tkz (L := []) hi (fun _ _ => tokA_rel) trivial (fun K p h => (pnow_wp h).mono fun v K' ⟨e1, e2⟩ => by
    subst e2
    exact ⟨e1, Nat.le_succ _, fun b hb _ => new_ne (by omega), (new_ne (by have := h.pl; omega)).trans h.ob⟩) hQ
theorem is_tc (C : PCtx Z X W ts sl) {s : List UInt8} (hs : s ≠ []) (hi : i ≤ ts.length) (hQ : Q (rS (.bool (isT ts i s))) (rdS sl i)) : TC Z (tblG Try.prog LG GG) X 35 [.ptr 0 0, rS (.string ⟨⟨s⟩⟩)] (rdR sl i) Q R := by
  obtain ⟨c1, s, rfl⟩ : ∃ c1 s', s = c1 :: s' := by cases s; exact absurd rfl hs; exact ⟨_, _, rfl⟩
  exact tc_rd C.tkz (L := [.string ⟨⟨c1 :: s⟩⟩]) hi (fun _ _ => rS_rel rfl) trivial (fun K p h => (pis_wp h).mono fun v K' ⟨e1, e2⟩ => by
    subst e2
    have := h.pl
    refine ⟨e1, by simp only [new_nx]; omega, fun b hb _ => ?_, ?_⟩
    · rw [new_ne (by simp only [new_nx]; omega), new_ne (by omega)]
    · rw [new_ne (by simp only [new_nx]; omega), new_ne (by omega)]; exact h.ob) hQ
theorem kind_tc (C : PCtx Z X W ts sl) {k : Int} (hi : i ≤ ts.length) (hQ : Q (rS (.bool (decide ((nowT ts i).kind = k)))) (rdS sl i)) : TC Z (tblG Try.prog LG GG) X 38 [.ptr 0 0, rS (.int .i64 k)] (rdR sl i) Q R :=
  tc_rd C.tkz (L := [.int .i64 k]) hi (fun _ _ => rS_rel rfl) trivial (fun K p h => (pkind_wp h).mono fun v K' ⟨e1, e2⟩ => by
    subst e2
    exact ⟨e1, Nat.le_succ _, fun b hb _ => new_ne (by omega), (new_ne (by have := h.pl; omega)).trans h.ob⟩) hQ
end
end Can
end Go.Proofs.Ytnkfdkfmdeibfaa
end
section
namespace Go.Proofs.Ytnkfdkfmdeibfaa
namespace Can
open Go Go.RowKit
set_option linter.unusedSimpArgs false
set_option linter.unusedVariables false
set_option maxRecDepth 4000
def wrV (l : Int) : Value := .iface 45 (.agg #[.int .i64 l])
noncomputable def regOps : Option Code → Array Oper
  | some (.region _ ops _) => ops
  | _ => #[]
noncomputable def failOps : Array Oper := regOps (Try.f37).body
def pX : Pan := fun f args H v H' => f = 37 ∧ ∃ p sl ts i, args = [.pointer (some ⟨p, 0, none⟩)] ∧ RpP H p sl ts i ∧ v = wrV (nowT ts i).line ∧ H' = H.new (tkC (nowT ts i))
noncomputable def failIts : List Item := (resItems Try.prog 7 failOps (failOps.toList.take 4)).getD []
theorem failIts_ok : resItems Try.prog 7 failOps (failOps.toList.take 4) = some failIts := by
  unfold failIts
  have h : (resItems Try.prog 7 failOps (failOps.toList.take 4)).isSome = true := by kernel_rfl
  cases hr : resItems Try.prog 7 failOps (failOps.toList.take 4) with
  | none => rw [hr] at h; cases h
  | some l => rfl
theorem fail_run {H : CH} {p : Nat} {sl : Sl} {ts : List PT} {i : Nat} (h : RpP H p sl ts i) : WpI (tblG Try.prog LG GG) failIts (fun t => [Value.pointer (some ⟨p, 0, none⟩)].getD t undef) H fun fr1 H1 => fr1 5 = .agg #[.int .i64 (nowT ts i).line] ∧ H1 = H.new (tkC (nowT ts i)) := by
  have hnow := fun Q => @pnow_iff H p sl ts i h Q
  unfold tokV at hnow
  conv in failIts => reduce
  repeat' (first | (simp (disch := first | omega | (decide +kernel) | (repeat first | assumption | exact HExt.refl _ | refine HExt.set ?_ (by first | omega | (simp only [new_nx, set_nx]; omega)) _ | refine HExt.new ?_ _)) only [↓RD, RU, accW_t, accW_f, isW, ↓putF_get, ↓putF_none, ↓evF_t, ↓evF_c, ↓evF_f, new_nx, set_nx, new_get, set_get, getD_zero, getD_succ, u_not, pop, lop, aop, wop, resL, resV, tupleV, akV, isVal, isCell, Value.cells, ρ0, ρ1, ρ2, ρ3, ρ4, ↓reduceIte, Nat.reduceEqDiff, Nat.reduceAdd, Int.reduceOfNat, Int.reduceNegSucc, reduceCtorEq, ρ5, ρ6, ρ7, ρ8, srcR_c, src_n, src_v, src_s, bnd, lenV, capV, ρ9, ρ10, ρ11, ρ12, ρ13, ρ14, ρ15, ρ16, ρ17, ρ18, ρ19, ρ20, ρ21, ρ22, ρ23, ρ24, Kd.isRo, ρ25, ρ26, bldV, Nat.reduceLeDiff, Int.reduceMul, Int.reduceAdd, Int.reduceSub, Int.reduceToNat, maxLen_eq, zeros_one, appS_some, appV_n, appV_v, appH_t, appH_f, Kd.isEx, ρ27, partV, CH.set_set, lkV, lkR, isKey, mupV, nxtV, ρ28, ρ29, hnow]) | (with_reducible first | refine condK_dec (fun _ => ?_) fun _ => ?_ | refine grd_dec (fun _ => ?_) fun _ => ?_ | refine egrd_dec (fun _ => ?_) fun _ => ?_))
  all_goals exact ⟨rfl, rfl⟩
theorem fail_ok {B : Nat} {f : FuncId} {args : List Value} {H : CH} {v : Value} {H' : CH} (h : pX f args H v H') : PanC Try.prog B f args H v H' := by
  obtain ⟨rfl, p, sl, ts, i, rfl, hR, rfl, rfl⟩ := h
  refine ⟨by kernel_rfl, fun β w args' hS hv => ?_⟩
  obtain ⟨n, fr1, H1, hrun, h5, rfl⟩ := fail_run hR
  obtain ⟨hl, hits⟩ := resItems_ok failIts_ok
  have hbody : (Try.f37).body = some (.region 0 failOps false) := by rfl
  refine callsIn_of_wp_marks Try.func37 hbody trivial ?_ rfl
  have hnt : (Try.f37).ntmps = 7 := by rfl
  have hf := frArgs (N := 7) hv
  rw [hnt]
  refine wpIn_region ?_
  show wpOpsIn (Fn none) 0 Try.prog failOps _ ([0, 1, 2, 3] ++ [4, 5]) _ w
  refine wpOpsIn_app [4, 5] [0, 1, 2, 3] _ w ?_
  refine items_sound (fn_sound tg_ok n) [0, 1, 2, 3] failIts β _ fr1 H _ _ w (by rw [hl]; rfl) (fun k h1 h2 => ?_) hS hf hrun fun β' w' a' q1 q2 q3 q4 => ?_
  · have hk : k < (failOps.toList.take 4).length := by rw [← hl]; exact h1
    refine ⟨(failOps.toList.take 4)[k], ?_, hits k h1 hk⟩
    have hk4 : k < 4 := by simpa using h2
    obtain rfl | rfl | rfl | rfl : k = 0 ∨ k = 1 ∨ k = 2 ∨ k = 3 := by omega
    all_goals rfl
  · have h5' : a'.tmps.getD 5 undef = .agg #[.int .i64 (nowT ts i).line] := by
      have := q3.2 5
      rw [h5] at this
      exact closedW_eq rfl this
    have hlen := q3.1
    show wpOpsIn (Fn none) 0 Try.prog failOps _ [4, 5] a' w'
    have ho4 : failOps[4]? = some (failOps[4]'(by decide)) := rfl
    have ho5 : failOps[5]? = some (failOps[5]'(by decide)) := rfl
    simp only [wpOpsIn, ho4, ho5]
    rw [if_pos (by rfl)]
    refine ⟨fun f _ => trivial, ?_⟩
    have hr4 : ((failOps[4]'(by decide)).semAt (Fn none).round a'.eval).run Try.prog w' = .ok (.value (wrV (nowT ts i).line)) w' := by
      rw [show (Fn none).round = none from rfl, Oper.semAt_none]
      simp [execOp, failOps, regOps, Try.f37, Instr.makeInterface, Act.eval, h5']
      rfl
    rw [hr4, Oper.uponIn_value]
    have hd4 : (failOps[4]'(by decide)).dst = some 6 := rfl
    rw [hd4]
    have h6 : (a'.put (some 6) (wrV (nowT ts i).line)).tmps.getD 6 undef = wrV (nowT ts i).line := by
      show (a'.tmps.setIfInBounds 6 _).getD 6 undef = _
      rw [Array.getD_eq_getD_getElem?, Array.getElem?_setIfInBounds_self_of_lt (by omega)]
      rfl
    have hdef : (a'.put (some 6) (wrV (nowT ts i).line)).defers = [] := q4
    generalize a'.put (some 6) (wrV (nowT ts i).line) = a2 at h6 hdef ⊢
    rw [if_pos (by rfl)]
    refine ⟨fun f _ => trivial, ?_⟩
    have hr5 : ((failOps[5]'(by decide)).semAt (Fn none).round a2.eval).run Try.prog w' = .halt (.panic (wrV (nowT ts i).line)) w' := by
      rw [show (Fn none).round = none from rfl, Oper.semAt_none]
      simp [execOp, failOps, regOps, Try.f37, Instr.panic, Act.eval, h6, wrV]
    rw [hr5, Oper.uponIn_panic]
    show LeavesInM _ _ _ _ _ _ a2.defers _ w'
    rw [hdef]
    exact ⟨_, β', rfl, .iface _ (.agg rfl fun i h1 h2 => by
      have : i = 0 := by simpa using h1
      subst this; exact .int _ _), q1, q2⟩
theorem pctx {Z : TP} {sl : Sl} {ts : List PT} (hZ : TkZ Z sl ts) (hl : ts.length ≤ 4398046510976) : PCtx Z pX wrV ts sl := ⟨hZ, fun i Q R hi hR K sp hid vs h1 h2 h3 h4 => by
  obtain ⟨p, rfl, hp, ho⟩ := self_inv h4
  have hvs : vs = [.pointer (some ⟨p, 0, none⟩)] := by
    cases h3 with
    | cons g1 g2 =>
      cases g2
      obtain ⟨l, q1, q2⟩ := g1.ptr_inv
      have q1 : some p = some l := q1
      cases q1
      rw [q2]
  subst hvs
  exact .inr ⟨0, _, _, ⟨rfl, p, sl, ts, i, rfl, ⟨ho, hp, hi, hZ.n, hZ.tk K fun b hb => ⟨(h2 b hb).1, (h2 b hb).2.2⟩⟩, rfl, rfl⟩, Nat.le_succ _, fun b hb _ => new_ne (by omega), hR⟩, hl⟩
end Can
end Go.Proofs.Ytnkfdkfmdeibfaa
end
section
namespace Go.Proofs.Ytnkfdkfmdeibfaa
namespace Can
open Go Go.RowKit
set_option linter.unusedSimpArgs false
set_option linter.unusedVariables false
set_option maxRecDepth 4000
theorem gd_ret : GdRet Try.prog 14 3 := by
  intro args w ha
  match args, ha with
  | [v1, v2, v3], _ =>
    refine callsDIn_of_wpSIn Try.func14 rfl trivial fun c0 cs hu => ?_
    have hnt : (Try.f14).ntmps = 20 := by rfl
    rw [hnt]
    apply wpSIn_seq
    apply wpSIn_region
    simp [wpOpsSIn, go_sem, recoverD, hu, Exit.thenS]
    refine wpSIn_of_wpIn rfl (wpIn_seq (wpIn_region ?_))
    simp [wpOpsIn, go_sem]
    refine wpIn_cond_false (by simp [Act.eval]) (wpIn_skip ?_)
    simp [bodyPostS, results, Try.f14]
    cases c0
    simp_all
def lastOps : Code → Array Oper
  | .seq _ b => lastOps b
  | .cond _ a _ => lastOps a
  | .region _ ops _ => ops
  | _ => #[]
noncomputable def gdOps : Array Oper := lastOps ((Try.f14).body.getD .skip)
noncomputable def gdD : DReg := (resD Try.prog 20 gdOps).getD ⟨[], [], none⟩
theorem gdD_ok : DOk Try.prog 20 gdOps gdD ∧ PDOk Try.prog 20 gdOps gdD := by
  refine resD_ok ?_
  unfold gdD
  have h : (resD Try.prog 20 gdOps).isSome = true := by kernel_rfl
  cases hr : resD Try.prog 20 gdOps with
  | none => rw [hr] at h; cases h
  | some l => rfl
def gdH (H : CH) (l : Int) : CH := (H.new (.cells [.int .i64 0] 45 .ex)).set H.nx (.cells [.int .i64 l] 45 .ex)
def gdG (args : List Value) (v : Value) (H H' : CH) : Prop := args.length = 3 ∧ ∃ l, v = wrV l ∧ WpR (tblG Try.prog LG GG) (.drw gdD) (fun t => if t = 4 then .pointer (some ⟨H.nx, 0, none⟩) else args.getD t undef) (gdH H l) fun x _ K => x = .normal ∧ K = H'
noncomputable def gdTl : Code := match (Try.f14).body with
  | some (.seq _ (.seq _ (.cond _ x _))) => x
  | _ => .skip
noncomputable def gd0 : Array Oper := match (Try.f14).body with
  | some (.seq (.region _ ops _) _) => ops
  | _ => #[]
noncomputable def gd1 : Array Oper := match (Try.f14).body with
  | some (.seq _ (.seq (.region _ ops _) _)) => ops
  | _ => #[]
noncomputable def gd2 : Array Oper := match gdTl with
  | .seq (.region _ ops _) _ => ops
  | _ => #[]
noncomputable def gd3 : Array Oper := match gdTl with
  | .seq _ (.seq (.seq (.region _ ops _) _) _) => ops
  | _ => #[]
noncomputable def gd4 : Code := match gdTl with
  | .seq _ (.seq (.seq _ (.cond _ x _)) _) => x
  | _ => .skip
theorem gd_ops {K3 : Act → World → Prop} {Q3 : Exit → Act → World → Prop} {a : Act} {w : World} {l : Int} (h3 : a.tmps.getD 3 undef = wrV l) (hs : 20 ≤ a.tmps.size)
    (hK : ∀ a', a'.defers = a.defers → 20 ≤ a'.tmps.size → (∀ t, t < 3 → a'.tmps.getD t undef = a.tmps.getD t undef) → a'.tmps.getD 12 undef = .agg #[.int .i64 l] → a'.tmps.getD 13 undef = .bool true → K3 a' w) : wpOpsIn Fence.wide 0 Try.prog gd2 (thenQ K3 Q3) [0, 1, 2, 3, 4] a w := by
  have hta : ∀ (xt : TypeId) (v : Value) (w : World), (Instr.typeAssert (.iface 45 v) xt 45 true).run Try.prog w = .ok (.tuple #[v, .bool true]) w := fun xt v w => by kernel_rfl
  have s9 : 9 < a.tmps.size := by omega
  have s10 : 10 < a.tmps.size := by omega
  have s11 : 11 < a.tmps.size := by omega
  have s12 : 12 < a.tmps.size := by omega
  have s13 : 13 < a.tmps.size := by omega
  unfold wrV at h3
  simp only [Array.getD_eq_getD_getElem?] at h3 hK
  have e : gd2 = _ := rfl
  conv at e => rhs; whnf
  rw [e]
  simp [wpOpsIn, go_sem, thenQ, hta, h3, s9, s10, s11, s12, s13]
  refine hK _ rfl (by simpa using hs) (fun t ht => ?_) ?_ ?_
  · have g9 : 9 ≠ t := by omega
    have g10 : 10 ≠ t := by omega
    have g11 : 11 ≠ t := by omega
    have g12 : 12 ≠ t := by omega
    have g13 : 13 ≠ t := by omega
    simp [Array.getElem?_setIfInBounds, g9, g10, g11, g12, g13]
  · simp [Array.getElem?_setIfInBounds, s12]
  · simp [Array.getElem?_setIfInBounds, s13]
noncomputable def gdIts : List Item := (resItems Try.prog 20 gd2 (gd2.toList.drop 5)).getD []
theorem gdIts_ok : resItems Try.prog 20 gd2 (gd2.toList.drop 5) = some gdIts := by
  unfold gdIts
  have h : (resItems Try.prog 20 gd2 (gd2.toList.drop 5)).isSome = true := by kernel_rfl
  cases hr : resItems Try.prog 20 gd2 (gd2.toList.drop 5) with
  | none => rw [hr] at h; cases h
  | some l => rfl
theorem gd_run {H : CH} {l : Int} {fr : Fr} (h12 : fr 12 = .agg #[.int .i64 l]) (h13 : fr 13 = .bool true) : WpI (tblG Try.prog LG GG) gdIts fr H fun fr1 H1 => fr1 0 = fr 0 ∧ fr1 1 = fr 1 ∧ fr1 2 = fr 2 ∧ fr1 4 = .pointer (some ⟨H.nx, 0, none⟩) ∧ fr1 5 = .bool true ∧ H1 = gdH H l := by
  unfold gdH
  conv in gdIts => reduce
  repeat' (first | (simp (disch := first | omega | (decide +kernel) | (repeat first | assumption | exact HExt.refl _ | refine HExt.set ?_ (by first | omega | (simp only [new_nx, set_nx]; omega)) _ | refine HExt.new ?_ _)) only [↓RD, RU, accW_t, accW_f, isW, ↓putF_get, ↓putF_none, ↓evF_t, ↓evF_c, ↓evF_f, new_nx, set_nx, new_get, set_get, getD_zero, getD_succ, u_not, pop, lop, aop, wop, resL, resV, tupleV, akV, isVal, isCell, Value.cells, ρ0, ρ1, ρ2, ρ3, ρ4, ↓reduceIte, Nat.reduceEqDiff, Nat.reduceAdd, Int.reduceOfNat, Int.reduceNegSucc, reduceCtorEq, ρ5, ρ6, ρ7, ρ8, srcR_c, src_n, src_v, src_s, bnd, lenV, capV, ρ9, ρ10, ρ11, ρ12, ρ13, ρ14, ρ15, ρ16, ρ17, ρ18, ρ19, ρ20, ρ21, ρ22, ρ23, ρ24, Kd.isRo, ρ25, ρ26, bldV, Nat.reduceLeDiff, Int.reduceMul, Int.reduceAdd, Int.reduceSub, Int.reduceToNat, maxLen_eq, zeros_one, appS_some, appV_n, appV_v, appH_t, appH_f, Kd.isEx, ρ27, partV, CH.set_set, lkV, lkR, isKey, mupV, nxtV, ρ28, ρ29, h12, h13]) | (with_reducible first | refine condK_dec (fun _ => ?_) fun _ => ?_ | refine grd_dec (fun _ => ?_) fun _ => ?_ | refine egrd_dec (fun _ => ?_) fun _ => ?_))
theorem gd_tl {B : Nat} {β : Nat → Ent} {w : World} {u1 u2 u3 v1 v2 v3 : Value} {l : Int} {H H' : CH} {a : Act} {Q : Exit → Act → World → Prop} (hS : Sim Try.prog B β H w) (hargs : VRs β [u1, u2, u3] [v1, v2, v3]) (hG : gdG [u1, u2, u3] (wrV l) H H') (h3 : a.tmps.getD 3 undef = wrV l) (hs : 20 ≤ a.tmps.size)
    (ha : ∀ i, i < 3 → a.tmps.getD i undef = [v1, v2, v3].getD i undef)
    (hK : ∀ β' w' a', Sim Try.prog B β' H' w' → Evo β w β' w' → a'.defers = a.defers → Q .normal a' w') : gdTl.wpIn Fence.wide 0 Try.prog Q a w := by
  obtain ⟨_, l', hl, n, x, fr2, K', hev, rfl, rfl⟩ := hG
  have hl : l' = l := by
    unfold wrV at hl
    injection hl with _ hl
    injection hl with hl
    simpa using hl.symm
  subst hl
  show (Code.seq (.region 2 gd2 false) (.seq (.seq (.region 3 gd3 false) (.cond (.tmp 15) gd4 .skip)) (.region 5 gdOps true))).wpIn Fence.wide 0 Try.prog Q a w
  refine wpIn_seq_k fun K hK2 => wpIn_region ?_
  show wpOpsIn Fence.wide 0 Try.prog gd2 _ ([0, 1, 2, 3, 4] ++ [5, 6, 7]) a w
  refine wpOpsIn_app [5, 6, 7] [0, 1, 2, 3, 4] a w (gd_ops h3 hs fun a1 hd1 hs1 h01 h12 h13 => ?_)
  have hf1 : FR β 20 (fun t => if t < 3 then [u1, u2, u3].getD t undef else if t = 12 then .agg #[.int .i64 l'] else if t = 13 then .bool true else undef) a1 := by
    refine ⟨hs1, fun t => ?_⟩
    show VR β (if t < 3 then [u1, u2, u3].getD t undef else if t = 12 then .agg #[.int .i64 l'] else if t = 13 then .bool true else undef) _
    split
    · rename_i ht
      rw [h01 t ht, ha t ht]
      obtain ⟨z, z1, z2⟩ := hargs.2 t ([u1, u2, u3].getD t undef) (by
        obtain rfl | rfl | rfl : t = 0 ∨ t = 1 ∨ t = 2 := by omega
        all_goals rfl)
      have e : [v1, v2, v3].getD t undef = z := by rw [List.getD_eq_getElem?_getD, z1]; rfl
      rw [e]
      exact z2
    · split
      · rename_i e; subst e; rw [h12]; exact closedW_rel rfl β
      · split
        · rename_i e; subst e; rw [h13]; exact .bool _
        · exact .undef _
  obtain ⟨m, fr1, H1, hrun, g0, g1, g2, g4, g5, rfl⟩ := gd_run (H := H) (l := l') (fr := fun t => if t < 3 then [u1, u2, u3].getD t undef else if t = 12 then .agg #[.int .i64 l'] else if t = 13 then .bool true else undef) rfl rfl
  obtain ⟨hl, hits⟩ := resItems_ok gdIts_ok
  refine items_sound (ro := none) (fn_sound tg_ok m) [5, 6, 7] gdIts β _ fr1 H _ a1 w (by rw [hl]; rfl) (fun k h1 h2 => ?_) hS hf1 hrun fun β2 w2 a2 q1 q2 q3 q4 => ?_
  · have hk : k < (gd2.toList.drop 5).length := by rw [← hl]; exact h1
    refine ⟨(gd2.toList.drop 5)[k], ?_, hits k h1 hk⟩
    have hk3 : k < 3 := by simpa using h2
    obtain rfl | rfl | rfl : k = 0 ∨ k = 1 ∨ k = 2 := by omega
    all_goals rfl
  · refine hK2 _ _ ?_
    have h5 : a2.tmps.getD 5 undef = .bool true := by
      have := q3.2 5
      rw [g5] at this
      exact this.bool_inv
    have hs2 := q3.1
    refine wpIn_seq (wpIn_seq (wpIn_region ?_))
    have e3 : gd3 = _ := rfl
    conv at e3 => rhs; whnf
    rw [e3]
    have s14 : 14 < a2.tmps.size := by omega
    have s15 : 15 < a2.tmps.size := by omega
    simp only [Array.getD_eq_getD_getElem?] at h5
    simp [wpOpsIn, go_sem, h5, s14, s15]
    refine wpIn_cond_false (by simp [Act.eval, Array.getElem?_setIfInBounds, s15]) (wpIn_skip ?_)
    have hev' : evD (evH (tblG Try.prog LG GG) n) gdD (fun t => if t = 4 then .pointer (some ⟨H.nx, 0, none⟩) else [u1, u2, u3].getD t undef) (gdH H l') = some (fr2, K') := by
      simp only [evR] at hev
      cases hr : evD (evH (tblG Try.prog LG GG) n) gdD (fun t => if t = 4 then .pointer (some ⟨H.nx, 0, none⟩) else [u1, u2, u3].getD t undef) (gdH H l') with
      | none => rw [hr] at hev; simp at hev
      | some q => rw [hr] at hev; simp at hev; rw [← hev.1, ← hev.2]
    refine gdD_ok.1 B _ none β2 _ fr2 _ K' _ w2 5 Q (fn_sound tg_ok n) q1 ?_ hev' fun β3 w3 a3 p1 p2 p3 p4 => hK β3 w3 a3 p1 (q2.trans p2) (p4.trans (q4.trans hd1))
    refine ⟨by simpa using hs2, fun t => ?_⟩
    by_cases h15 : t = 15
    · subst h15; exact .undef _
    by_cases h14 : t = 14
    · subst h14; exact .undef _
    have e : ∀ z y : Value, ((a2.tmps.setIfInBounds 14 z).setIfInBounds 15 y).getD t undef = a2.tmps.getD t undef := fun z y => by
      have g14 : 14 ≠ t := fun e => h14 e.symm
      have g15 : 15 ≠ t := fun e => h15 e.symm
      simp [Array.getD_eq_getD_getElem?, Array.getElem?_setIfInBounds, g14, g15]
    show VR β2 (if t = 4 then .pointer (some ⟨H.nx, 0, none⟩) else [u1, u2, u3].getD t undef) (Array.getD _ t undef)
    rw [e]
    split
    · rename_i h4
      subst h4
      rw [← g4]
      exact q3.2 4
    · match t with
      | 0 => have := q3.2 0; rw [g0] at this; exact this
      | 1 => have := q3.2 1; rw [g1] at this; exact this
      | 2 => have := q3.2 2; rw [g2] at this; exact this
      | n + 3 => exact .undef _
theorem gd_pan {B : Nat} : GdPan Try.prog B 14 gdG := by
  intro β w args args' v v' H H' hS hargs hv hG
  obtain ⟨hlen, l, hvl, _⟩ := id hG
  subst hvl
  have hv' : v' = wrV l := by
    unfold wrV at hv ⊢
    cases hv with
    | iface t hx => rw [closedW_eq rfl hx]
  subst hv'
  match args, hlen, args', hargs with
  | [u1, u2, u3], _, [v1, v2, v3], hargs =>
    refine callsDIn_of_wpSIn (c := .seq (.region 0 gd0 false) (.seq (.region 1 gd1 false) (.cond (.tmp 8) gdTl .skip))) Try.func14 rfl trivial fun c0 cs hu => ?_
    have hnt : (Try.f14).ntmps = 20 := by rfl
    rw [hnt]
    have e0 : gd0 = _ := rfl
    conv at e0 => rhs; whnf
    have e1 : gd1 = _ := rfl
    conv at e1 => rhs; whnf
    rw [e0, e1]
    apply wpSIn_seq
    apply wpSIn_region
    simp [wpOpsSIn, go_sem, recoverD, hu, Exit.thenS]
    refine wpSIn_of_wpIn rfl (wpIn_seq (wpIn_region ?_))
    simp [wpOpsIn, go_sem, wrV]
    refine wpIn_cond_true (by simp [Act.eval]) (gd_tl (l := l) hS hargs hG (by simp [wrV]) (by simp) (fun i hi => ?_) fun β' w' a' q1 q2 q3 => ?_)
    · obtain rfl | rfl | rfl : i = 0 ∨ i = 1 ∨ i = 2 := by omega
      all_goals simp
    · simp [bodyPostS, results, Try.f14]
      exact ⟨q3, β', q1, q2⟩
end Can
end Go.Proofs.Ytnkfdkfmdeibfaa
end
