/- The chapter's examples, and the walks of the laws. -/
import Derived.Test.YthmhcpfplmhgnaaROrd
import Derived.Handy
namespace Go.Proofs.Ythmhcpfplmhgnaa
open Go.ChangeShapes Go.WideShapes Go.ChangeAt Go.RowKit
set_option linter.unusedSimpArgs false
set_option linter.unusedVariables false

def fitsB : Nat → List (List Int) → Bool
  | _, [] => true
  | c, l :: r => decide (l.Nodup ∧ ∀ x ∈ l, 0 ≤ x ∧ x < (c : Int)) && fitsB (c + 1) r
theorem fitsB_at : ∀ (bs : List (List Int)) (k : Nat), fitsB k bs = true → ∀ c (h : c < bs.length), GoodRow (k + c) bs[c]
  | [], _, _, c, h => absurd h (Nat.not_lt_zero _)
  | l :: r, k, hb, c, h => by
    unfold fitsB at hb
    rw [Bool.and_eq_true, decide_eq_true_eq] at hb
    cases c with
    | zero => exact hb.1
    | succ c =>
      have := fitsB_at r (k + 1) hb.2 c (by simpa using h)
      rw [show k + (c + 1) = k + 1 + c from by omega]
      simpa only [List.getElem_cons_succ] using this
theorem fits_of {bs : List (List Int)} (h : fitsB 0 bs = true) : Fits bs := fun c hc => by simpa using fitsB_at bs 0 h c hc
theorem ans1 : ansF [[], [0], [0], [1, 2]] 3 = ([3, 1, 2, 0], 0) := ansF_some (by decide) (by decide) (fits_of (by decide)) (by decide)
theorem ans2 : ansF [[], [0], [0, 1]] 2 = ([], 13) := ansF_none (by decide) (by decide) (fits_of (by decide)) (by decide)
theorem ex1 (w : World) : let W := (((((w.alloc (Obj.cells #[] 3)).alloc (Obj.cells #[Value.int IntKind.i64 0] 3)).alloc (Obj.cells #[Value.int IntKind.i64 0] 3)).alloc (Obj.cells #[Value.int IntKind.i64 1, Value.int IntKind.i64 2] 3)).alloc
      (Obj.cells #[Value.slice (some { block := w.heap.size, off := 0 }) 0 0, Value.slice (some { block := w.heap.size + 1, off := 0 }) 1 1, Value.slice (some { block := w.heap.size + 1 + 1, off := 0 }) 1 1, Value.slice (some { block := w.heap.size + 1 + 1 + 1, off := 0 }) 2 2] 24));
    RRows (fun b => b < W.heap.size) W [Value.slice (some { block := w.heap.size + 1 + 1 + 1 + 1, off := 0 }) 4 4] [[], [0], [0], [1, 2]] := by
  intro W
  have hs : W.heap.size = w.heap.size + 5 := by simp [W]
  have b0 : W.heap[w.heap.size]? = some (.cells #[] 3) := by simp only [W, heap_alloc_at, World.size_alloc]; repeat (first | rw [if_pos trivial] | rw [if_pos (by omega)] | rw [if_neg (by omega)])
  have b1 : W.heap[w.heap.size + 1]? = some (.cells #[Value.int IntKind.i64 0] 3) := by simp only [W, heap_alloc_at, World.size_alloc]; repeat (first | rw [if_pos trivial] | rw [if_pos (by omega)] | rw [if_neg (by omega)])
  have b2 : W.heap[w.heap.size + 1 + 1]? = some (.cells #[Value.int IntKind.i64 0] 3) := by simp only [W, heap_alloc_at, World.size_alloc]; repeat (first | rw [if_pos trivial] | rw [if_pos (by omega)] | rw [if_neg (by omega)])
  have b3 : W.heap[w.heap.size + 1 + 1 + 1]? = some (.cells #[Value.int IntKind.i64 1, Value.int IntKind.i64 2] 3) := by simp only [W, heap_alloc_at, World.size_alloc]; repeat (first | rw [if_pos trivial] | rw [if_pos (by omega)] | rw [if_neg (by omega)])
  have b4 : W.heap[w.heap.size + 1 + 1 + 1 + 1]? = some (Obj.cells #[Value.slice (some { block := w.heap.size, off := 0 }) 0 0, Value.slice (some { block := w.heap.size + 1, off := 0 }) 1 1, Value.slice (some { block := w.heap.size + 1 + 1, off := 0 }) 1 1, Value.slice (some { block := w.heap.size + 1 + 1 + 1, off := 0 }) 2 2] 24) := by simp only [W, heap_alloc_at, World.size_alloc]; repeat (first | rw [if_pos trivial] | rw [if_pos (by omega)] | rw [if_neg (by omega)])
  refine RSl.lit b4 rfl (by decide) (by omega) ⟨RSl.lit b0 rfl (by decide) (by omega) trivial, RSl.lit b1 rfl (by decide) (by omega) ⟨⟨rfl, rfl⟩, trivial⟩, RSl.lit b2 rfl (by decide) (by omega) ⟨⟨rfl, rfl⟩, trivial⟩, RSl.lit b3 rfl (by decide) (by omega) ⟨⟨rfl, rfl⟩, ⟨rfl, rfl⟩, trivial⟩, trivial⟩

theorem ex2 (w : World) : let W := ((((w.alloc (Obj.cells #[] 3)).alloc (Obj.cells #[Value.int IntKind.i64 0] 3)).alloc (Obj.cells #[Value.int IntKind.i64 0, Value.int IntKind.i64 1] 3)).alloc
      (Obj.cells #[Value.slice (some { block := w.heap.size, off := 0 }) 0 0, Value.slice (some { block := w.heap.size + 1, off := 0 }) 1 1, Value.slice (some { block := w.heap.size + 1 + 1, off := 0 }) 2 2] 24));
    RRows (fun b => b < W.heap.size) W [Value.slice (some { block := w.heap.size + 1 + 1 + 1, off := 0 }) 3 3] [[], [0], [0, 1]] := by
  intro W
  have hs : W.heap.size = w.heap.size + 4 := by simp [W]
  have b0 : W.heap[w.heap.size]? = some (.cells #[] 3) := by simp only [W, heap_alloc_at, World.size_alloc]; repeat (first | rw [if_pos trivial] | rw [if_pos (by omega)] | rw [if_neg (by omega)])
  have b1 : W.heap[w.heap.size + 1]? = some (.cells #[Value.int IntKind.i64 0] 3) := by simp only [W, heap_alloc_at, World.size_alloc]; repeat (first | rw [if_pos trivial] | rw [if_pos (by omega)] | rw [if_neg (by omega)])
  have b2 : W.heap[w.heap.size + 1 + 1]? = some (.cells #[Value.int IntKind.i64 0, Value.int IntKind.i64 1] 3) := by simp only [W, heap_alloc_at, World.size_alloc]; repeat (first | rw [if_pos trivial] | rw [if_pos (by omega)] | rw [if_neg (by omega)])
  have b3 : W.heap[w.heap.size + 1 + 1 + 1]? = some (Obj.cells #[Value.slice (some { block := w.heap.size, off := 0 }) 0 0, Value.slice (some { block := w.heap.size + 1, off := 0 }) 1 1, Value.slice (some { block := w.heap.size + 1 + 1, off := 0 }) 2 2] 24) := by simp only [W, heap_alloc_at, World.size_alloc]; repeat (first | rw [if_pos trivial] | rw [if_pos (by omega)] | rw [if_neg (by omega)])
  refine RSl.lit b3 rfl (by decide) (by omega) ⟨RSl.lit b0 rfl (by decide) (by omega) trivial, RSl.lit b1 rfl (by decide) (by omega) ⟨⟨rfl, rfl⟩, trivial⟩, RSl.lit b2 rfl (by decide) (by omega) ⟨⟨rfl, rfl⟩, ⟨rfl, rfl⟩, trivial⟩, trivial⟩

theorem four_lit (S : Nat → Prop) (w : World) (hS : S w.heap.size) : RInts S (w.alloc (Obj.cells #[Value.int .i64 3, .int .i64 1, .int .i64 2, .int .i64 0] 3)) [Value.slice (some ⟨w.heap.size, 0, none⟩) 4 4] [3, 1, 2, 0] :=
  RSl.lit (cs := [Value.int .i64 3, .int .i64 1, .int .i64 2, .int .i64 0]) (by rw [heap_alloc_at, if_pos rfl]) rfl (by decide) hS ⟨⟨rfl, rfl⟩, ⟨rfl, rfl⟩, ⟨rfl, rfl⟩, ⟨rfl, rfl⟩, trivial⟩
/-- Whatever was there reads as before. -/
theorem Below.ints {w w' : World} {S : Nat → Prop} {cs : List Value} {l : List Int} (h : Below w.heap.size w w') (hS : ∀ b, S b → b < w.heap.size) (hr : RInts S w cs l) : RInts S w' cs l := RInts.good.keep ((Agree.of_below h).sub hS) hr

set_option maxHeartbeats 1600000 in
theorem known_any (w : World) :
    Calls Try.prog 6 #[] w fun e w' => e = .returned (.bool true) ∧ Below w.heap.size w w' := by
  go_enter Try.func6, Try.ntmps6
  go_wp2_with fail
  have e1 := ex1 w
  refine (ord_any _ _ _ 3 _ e1 (fun b h => h)).mono ?_
  rw [ans1]
  rintro e w1 ⟨u, rfl, ho, hb⟩
  clear e1
  have hb1 : Below w.heap.size w w1 := Below.trans (by go_grown) (hb.mono (by simp; omega))
  have ho' := ho.avoid (Y := fun _ => False) (fun _ _ h => h)
  have hr1 := RInts.good.wider (T := fun b => b < w1.heap.size) (fun b h => h.2.2) ho'.reads
  clear hb ho ho'
  obtain ⟨ua, uc, rfl, _, _⟩ := hr1.form
  go_wp2_with fail
  have e2 := ex2 w1
  refine (ord_any _ _ _ 2 _ e2 (fun b h => h)).mono ?_
  rw [ans2]
  rintro e w2 ⟨u2, rfl, ho2, hb2⟩
  have hb2' : Below w1.heap.size w1 w2 := Below.trans (by go_grown) (hb2.mono (by simp; omega))
  clear hb2 e2 ho2
  have hr2 := Below.ints hb2' (fun b h => h) hr1
  have hs := hb2'.size
  go_wp2_with fail
  have hr3 : RInts (fun b => b < w2.heap.size + 1) (w2.alloc (Obj.cells #[Value.int .i64 3, .int .i64 1, .int .i64 2, .int .i64 0] 3)) [Value.slice ua 4 uc] [3, 1, 2, 0] :=
    RInts.good.wider (fun b h => by omega) (Below.ints (S := fun b => b < w2.heap.size) ((Below.refl _ _).alloc (Nat.le_refl _) _) (fun b h => h) (RInts.good.wider (fun b h => by omega) hr2))
  have hr4 := four_lit (fun b => b < w2.heap.size + 1) w2 (by omega)
  refine (same_any _ _ _ _ _ _ hr3 hr4).mono ?_
  rintro e w' ⟨rfl, q, rfl⟩
  have h0 : hasF 0 [3, 1, 2, 0] = true := by decide
  have h4 : hasF 4 [3, 1, 2, 0] = false := by decide
  go_wp2_with (go_at_call 10; refine (below_any _ _ _ _ _ (RInts.good.keep ((Quiet.drewN _ _).agree _) hr3)).mono ?_; rintro e w' ⟨rfl, q2, rfl⟩)
  go_ret
  exact ⟨rfl, hb1.trans ((hb2'.mono hb1.size).trans (below_drewN ((Below.refl _ _).alloc (by have := hb1.size; omega) _) _))⟩

set_option maxHeartbeats 1600000 in
theorem orders_walk (S : Nat → Prop) (v : Value) (bs : List (List Int)) (c n : Int) (w : World) (h : RRows S w [v] bs) (hS : ∀ b, S b → b < w.heap.size) :
    Calls Try.prog 3 #[v, .int .i64 c, .int .i64 n] w fun e w' => e = .returned (.bool true) ∧ Below w.heap.size w w' := by
  go_enter Try.func3, Try.ntmps3
  go_wp2_with (go_at_call 6; refine (known_any _).mono ?_; rintro e w1 ⟨rfl, hb1⟩)
  have h1 := RRows.good.keep ((Agree.of_below hb1).sub hS) h
  have s1 := hb1.size
  refine (ord_any S v bs c w1 h1 (fun b hb => by have := hS b hb; omega)).mono ?_
  rintro e w2 ⟨u, rfl, ho, hb2⟩
  have h2 := RRows.good.keep ((Agree.of_below hb2).sub (fun b hb => by have := hS b hb; omega)) h1
  have s2 := hb2.size
  have r2 := RInts.good.wider (T := fun b => b < w2.heap.size) (fun b h => h.2.2) ho.reads
  have hk : -9223372036854775808 ≤ (ansF bs c).2 ∧ (ansF bs c).2 ≤ 9223372036854775807 := by unfold ansF; (repeat' split) <;> simp
  generalize hans : ansF bs c = p at *
  have HA := Lib.hid hans; clear hans
  obtain ⟨l, k⟩ := p
  simp only at r2 hk
  clear ho
  go_wp2_with fail
  refine (rord_any S v bs c w2 h2 (fun b hb => by have := hS b hb; omega)).mono ?_
  rw [HA.out]
  rintro e w3 ⟨u3, rfl, ho3, hb3⟩
  have s3 := hb3.size
  have r3 := RInts.good.wider (T := fun b => b < w3.heap.size) (fun b h => h.2.2) ho3.reads
  have r2' := RInts.good.wider (T := fun b => b < w3.heap.size) (fun b h => by omega) (Below.ints hb3 (fun b h => h) r2)
  simp only at r3
  clear ho3
  go_wp2_with (first
    | (go_at_call 9; refine (same_any _ _ _ _ _ _ r2' r3).mono ?_; rintro e w' ⟨rfl, q, rfl⟩)
    | (go_at_call 10; refine (below_any _ _ _ _ _ (RInts.good.keep ((Quiet.drewN _ _).agree _) r2')).mono ?_; rintro e w' ⟨rfl, q2, rfl⟩)
    | (go_at_call 11; refine (has_any _ _ _ 0 _ _ (RInts.good.keep ((Quiet.drewN _ _).agree _) r2') (by decide)).mono ?_; rintro e w' ⟨rfl, q3, rfl⟩))
  go_ways
  go_ret
  exact ⟨rfl, (hb1.trans (hb2.mono s1)).trans ((hb3.mono (by omega)).trans (below_drewN (Below.refl _ _) _))⟩
end Go.Proofs.Ythmhcpfplmhgnaa
