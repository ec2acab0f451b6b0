/- Order of package mro: its answer. -/
import Derived.Test.YthmhcpfplmhgnaaOrder
namespace Go.Proofs.Ythmhcpfplmhgnaa
open Go.ChangeShapes Go.WideShapes Go.ChangeAt Go.RowKit
set_option linter.unusedSimpArgs false
set_option linter.unusedVariables false

open Classical in
/-- The answer of Order: the list and the error. -/
noncomputable def ansF (bs : List (List Int)) (c : Int) : List Int × Int :=
  if c < 0 ∨ (bs.length : Int) ≤ c then ([], 1) else if 200 < bs.length then ([], 2) else if ¬ Fits bs then ([], 3) else
  match ordF bs c.toNat with
  | none => ([], 13)
  | some l => (l, 0)
theorem ansF_arg {bs : List (List Int)} {c : Int} (h : c < 0 ∨ (bs.length : Int) ≤ c) : ansF bs c = ([], 1) := by unfold ansF; rw [if_pos h]
theorem ansF_long {bs : List (List Int)} {c : Int} (h : ¬ (c < 0 ∨ (bs.length : Int) ≤ c)) (h2 : 200 < bs.length) : ansF bs c = ([], 2) := by unfold ansF; rw [if_neg h, if_pos h2]
theorem ansF_form {bs : List (List Int)} {c : Int} (h : ¬ (c < 0 ∨ (bs.length : Int) ≤ c)) (h2 : ¬ 200 < bs.length) (h3 : ¬ Fits bs) : ansF bs c = ([], 3) := by unfold ansF; rw [if_neg h, if_neg h2, if_pos h3]
theorem ansF_none {bs : List (List Int)} {c : Int} (h : ¬ (c < 0 ∨ (bs.length : Int) ≤ c)) (h2 : ¬ 200 < bs.length) (h3 : Fits bs) (h4 : ordF bs c.toNat = none) : ansF bs c = ([], 13) := by unfold ansF; rw [if_neg h, if_neg h2, if_neg (by simpa using h3), h4]
theorem ansF_some {bs : List (List Int)} {c : Int} {l : List Int} (h : ¬ (c < 0 ∨ (bs.length : Int) ≤ c)) (h2 : ¬ 200 < bs.length) (h3 : Fits bs) (h4 : ordF bs c.toNat = some l) : ansF bs c = (l, 0) := by unfold ansF; rw [if_neg h, if_neg h2, if_neg (by simpa using h3), h4]

/-- What Order leaves: the list in new memory. -/
def Answered (a : List Int × Int) (w : World) (e : Ending) (w' : World) : Prop :=
  ∃ u : Value, e = .returned (.tuple #[u, .int .i64 a.2]) ∧ OwnInts (fun _ => False) w.heap.size w' u a.1 ∧ Below w.heap.size w w'
theorem Answered.nil {a : List Int × Int} {w w' : World} {k : Int} (h : a = ([], k)) (hb : Below w.heap.size w w') : Answered a w (.returned (.tuple #[.slice none 0 0, .int .i64 k])) w' := by
  subst h; exact ⟨_, rfl, ⟨World.ownsRow_nil _ _ _ _, by simp, fun b hb => by cases hb⟩, hb⟩
theorem Answered.some {a : List Int × Int} {w w' : World} {l : List Int} {u : Value} (h : a = (l, 0)) (ho : OwnInts (fun _ => False) w.heap.size w' u l) (hb : Below w.heap.size w w') : Answered a w (.returned (.tuple #[u, .int .i64 0])) w' := by
  subst h; exact ⟨_, rfl, ho, hb⟩
theorem Quiet.below {w w' : World} (h : Quiet w w') (B : Nat) : Below B w w' := by obtain ⟨n, rfl⟩ := h; exact below_drewN (Below.refl _ _) n
theorem Below.alloc_at {w w' : World} {o : Obj} (h : Below w.heap.size (w.alloc o) w') : Below w.heap.size w w' := ((Below.refl _ w).alloc (Nat.le_refl _) o).trans h

set_option maxHeartbeats 1600000 in
theorem ord_any (S : Nat → Prop) (v : Value) (bs : List (List Int)) (c : Int) (w : World) (h : RRows S w [v] bs) (hS : ∀ b, S b → b < w.heap.size) :
    Calls Try.prog 7 #[v, .int .i64 c] w (Answered (ansF bs c) w) := by
  obtain ⟨a, cap, rfl, hcap, hmax⟩ := h.form
  unfold maxLen at hmax
  by_cases h1 : c < 0
  · go_enter Try.func7, Try.ntmps7
    go_wp2
    go_ret2
    exact Answered.nil (ansF_arg (.inl h1)) (Below.refl _ _)
  by_cases h2 : (bs.length : Int) ≤ c
  · go_enter Try.func7, Try.ntmps7
    go_wp2
    go_ret2
    exact Answered.nil (ansF_arg (.inr h2)) (Below.refl _ _)
  have hc : ¬ (c < 0 ∨ (bs.length : Int) ≤ c) := by omega
  by_cases h3 : 200 < bs.length
  · have h3z : (200 : Int) < (bs.length : Int) := by omega
    go_enter Try.func7, Try.ntmps7
    go_wp2
    go_ret2
    exact Answered.nil (ansF_long hc h3) (Below.refl _ _)
  have h3z : ¬ (200 : Int) < (bs.length : Int) := by omega
  have HC := Lib.hid hc; clear hc
  by_cases h4 : Fits bs
  · obtain ⟨n, rfl⟩ : ∃ n : Nat, c = n := ⟨c.toNat, by omega⟩
    have hmk := @run_makeMap Try.prog
    go_enter Try.func7, Try.ntmps7
    go_wp2_with (go_at_call 14; refine (fits_any S _ bs _ h).mono ?_; rintro e w' ⟨b, rfl, hb, q, rfl⟩; obtain rfl : b = true := hb.2 h4; clear hb)
    have hA : Agree S w ((w.drewN q).alloc (.map #[] 0)) := fun b hb => Below.heap_alloc (w.drewN q) _ b (hS b hb)
    have hKn : Known bs (fun _ => False) w.heap.size (fun _ => none) ((w.drewN q).alloc (.map #[] 0)) := ⟨MapIs.new (w.drewN q), fun k val hk => by cases hk⟩
    have hcall := order_any bs h4 (by omega) (n + 1) n (by omega) (by omega) (fun _ => False) S _ w.heap.size _ ((w.drewN q).alloc (.map #[] 0)) (RRows.good.keep hA h)
      (fun b hb => ⟨Nat.lt_of_lt_of_le (hS b hb) (by simp), by have := hS b hb; omega⟩) (fun b hb => hb.elim) hKn
    refine hcall.mono ?_
    clear hcall
    rintro e w1 ⟨ok, rfl, hok, hg, m, hk, hv⟩
    have hbel : Below w.heap.size w w1 := ((below_drewN (Below.refl w.heap.size w) q).alloc (Nat.le_refl _) _).trans (hg.below (B := w.heap.size) (by simp) (fun j e => by simp at e; omega))
    cases ho : ordF bs n with
    | none =>
      obtain rfl : ok = false := by rw [hok, ho]; rfl
      clear hok hv
      go_wp2
      go_ret2
      exact Answered.nil (ansF_none HC.out h3 h4 ho) hbel
    | some l =>
      obtain rfl : ok = true := by rw [hok, ho]; rfl
      clear hok
      obtain ⟨val, hval⟩ := hv rfl
      clear hv
      obtain ⟨n', l', hnl, ho', hl', hr'⟩ := hk.has _ _ hval
      obtain rfl : n = n' := by omega
      obtain rfl : l = l' := by rw [ho] at ho'; exact Option.some.inj ho'
      clear ho' hnl
      have HO := Lib.hid ho; clear ho
      go_wp2_with (at_lookup; refine wpl_mapLook rfl _ _ 38 rfl Try.underlying38 Try.underlying3 (zeroRow _) hk.map rfl rfl ?_; rw [hval]; simp only [Option.getD_some])
      go_ret2
      exact Answered.some (ansF_some HC.out h3 h4 HO.out) ⟨own_base hr'.1 (fun j hj => by have := (hr'.1.lt j hj).1; omega), hr'.2.1, fun _ _ h => h⟩ hbel
  · go_enter Try.func7, Try.ntmps7
    go_wp2_with (go_at_call 14; refine (fits_any S _ bs _ h).mono ?_; rintro e w' ⟨b, rfl, hb, q, rfl⟩; obtain rfl : b = false := by cases b <;> simp_all)
    go_ret2
    exact Answered.nil (ansF_form HC.out h3 h4) (Quiet.below (by first | exact Quiet.refl _ | exact Quiet.drewN _ _ | exact (Quiet.drewN _ _).more _) _)
end Go.Proofs.Ythmhcpfplmhgnaa
