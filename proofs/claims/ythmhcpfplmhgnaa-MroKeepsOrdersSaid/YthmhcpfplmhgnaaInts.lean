/- The small functions over a list of ints, each by what it computes: Index, Contains, tail, Has, SameInts, place, Below. -/
import Derived.Test.YthmhcpfplmhgnaaBase
import Derived.Deep.QuietTactic
import Derived.BigQuiet
namespace Go.Proofs.Ythmhcpfplmhgnaa
open Go.ChangeShapes Go.WideShapes Go.ChangeAt Go.RowKit
set_option linter.unusedSimpArgs false
set_option linter.unusedVariables false

/-- Where a number stands first; -1: nowhere. -/
def idxF (v : Int) : List Int → Int
  | [] => -1
  | x :: l => if v = x then 0 else if idxF v l < 0 then -1 else idxF v l + 1
theorem idxF_neg (v : Int) : ∀ l : List Int, (idxF v l < 0 ↔ v ∉ l) ∧ -1 ≤ idxF v l ∧ idxF v l < l.length
  | [] => by simp [idxF]
  | x :: l => by
    obtain ⟨h1, h2, h3⟩ := idxF_neg v l
    unfold idxF
    by_cases e : v = x
    · simp [e]
    · by_cases g : idxF v l < 0
      · simp [e, g, h1.1 g]; omega
      · have : v ∈ l := by
          have := mt h1.2 g
          simpa using this
        simp [e, g, this]; omega
theorem idxF_at (v : Int) : ∀ (l : List Int) (k : Nat) (h : k < l.length), (∀ j (hj : j < l.length), j < k → l[j] ≠ v) → l[k] = v → idxF v l = k
  | [], k, h, _, _ => absurd h (Nat.not_lt_zero _)
  | x :: l, 0, _, _, e => by simp only [List.getElem_cons_zero] at e; simp [idxF, e]
  | x :: l, k + 1, h, hn, e => by
    have h0 := hn 0 (by simp) (by omega)
    simp only [List.getElem_cons_zero] at h0
    have ih := idxF_at v l k (by simpa using h) (fun j hj hjk => by have := hn (j + 1) (by simp; omega) (by omega); simpa using this) (by simpa using e)
    have h0' : ¬ v = x := fun e => h0 e.symm
    unfold idxF
    rw [if_neg h0', if_neg (by omega), ih]; omega
theorem idxF_none (v : Int) (l : List Int) (hn : ∀ j (hj : j < l.length), l[j] ≠ v) : idxF v l = -1 := by
  have := idxF_neg v l
  have h : v ∉ l := by
    intro h
    obtain ⟨j, hj, e⟩ := List.getElem_of_mem h
    exact hn j hj e
  have := this.1.2 h
  omega
def hasF (v : Int) (l : List Int) : Bool := decide (0 ≤ idxF v l)
theorem hasF_iff (v : Int) (l : List Int) : hasF v l = true ↔ v ∈ l := by
  unfold hasF
  have := (idxF_neg v l).1
  by_cases h : v ∈ l
  · simp [h]
    rw [← Int.not_lt]
    intro g; exact this.1 g h
  · simp [h]
    have := this.2 h; omega

set_option maxHeartbeats 400000 in
theorem index_any (S : Nat → Prop) (v : Value) (xs : List Int) (n : Int) (w : World) (h : RInts S w [v] xs) :
    Calls Try.prog 21 #[v, .int .i64 n] w fun e w' => e = .returned (.int .i64 (idxF n xs)) ∧ w = w' := by
  obtain ⟨a, cap, rfl, hcap, hmax⟩ := h.form
  unfold maxLen at hmax
  go_enter Try.func21, Try.ntmps21
  go_wp2
  go_loop [8] (fun i => ∃ k : Nat, k ≤ xs.length ∧ i = .int .i64 k ∧ ∀ j (hj : j < xs.length), j < k → xs[j] ≠ n) (fun i => xs.length - (intOf i).toNat)
  case atStart => exact ⟨0, Nat.zero_le _, rfl, fun j _ hj => absurd hj (Nat.not_lt_zero _)⟩
  case round =>
    obtain ⟨k, hk, rfl, hno⟩ := hrel
    have HN := Lib.hid hno; clear hno
    by_cases hlt : k < xs.length
    · obtain ⟨b, o, hb, rfl, hx, hc, h1, h2⟩ := RInts.get h k hlt
      by_cases e : n = xs[k]
      · have hd : (n == xs[k]) = true := by simp [e]
        have hfin := idxF_at n xs k hx HN.out e.symm
        have HF := Lib.hid hfin; clear hfin
        have HE := Lib.hid e; clear e
        go_wp2
        go_ret
        exact ⟨ret_int HF.out.symm, rfl⟩
      · have hd : (n == xs[k]) = false := by simp [e]
        clear e
        go_wp2
        go_round
        case rel => exact ⟨k + 1, by omega, by go_num, fun j hj hjk => by
          by_cases e : j = k
          · subst e; simp at hd; exact fun e => hd e.symm
          · exact HN.out j hj (by omega)⟩
        case measure => simp [intOf]; omega
    · go_wp2
      go_ret
      exact ⟨ret_int (idxF_none n xs (fun j hj => HN.out j hj (by omega))).symm, rfl⟩

set_option maxHeartbeats 400000 in
theorem contains_any (S : Nat → Prop) (v : Value) (xs : List Int) (n : Int) (w : World) (h : RInts S w [v] xs) :
    Calls Try.prog 18 #[v, .int .i64 n] w fun e w' => e = .returned (.bool (hasF n xs)) ∧ w = w' := by
  go_enter Try.func18, Try.ntmps18
  go_wp2_with (go_at_call 21; refine (index_any S v xs n _ h).mono ?_; rintro e w' ⟨rfl, rfl⟩)
  go_ret
  exact ⟨rfl, rfl⟩

/-- The world after some draws: nothing else has turned. -/
def Quiet (w w' : World) : Prop := ∃ n, w' = w.drewN n
theorem Quiet.refl (w : World) : Quiet w w := ⟨0, rfl⟩
theorem Quiet.more {w w' : World} (h : Quiet w w') (n : Nat) : Quiet w (w'.drewN n) := by
  obtain ⟨m, rfl⟩ := h; exact ⟨m + n, World.drewN_drewN ..⟩
theorem Quiet.trans {a b c : World} (h : Quiet a b) (k : Quiet b c) : Quiet a c := by
  obtain ⟨n, rfl⟩ := k; exact h.more n
theorem Quiet.cell {w w' : World} (h : Quiet w w') (a : Addr) : w'.cell? a = w.cell? a := by
  obtain ⟨n, rfl⟩ := h; rfl
theorem Quiet.agree {w w' : World} (h : Quiet w w') (S : Nat → Prop) : Agree S w w' := by
  obtain ⟨n, rfl⟩ := h; exact Agree.refl _ _
theorem Quiet.drewN (w : World) (n : Nat) : Quiet w (w.drewN n) := ⟨n, rfl⟩

set_option maxHeartbeats 400000 in
theorem same_any (S : Nat → Prop) (u v : Value) (xs ys : List Int) (w : World) (h : RInts S w [u] xs) (g : RInts S w [v] ys) :
    Calls Try.prog 9 #[u, v] w fun e w' => e = .returned (.bool (decide (xs = ys))) ∧ Quiet w w' := by
  obtain ⟨a, cap, rfl, hcap, hmax⟩ := h.form
  obtain ⟨a', cap', rfl, hcap', hmax'⟩ := g.form
  unfold maxLen at hmax hmax'
  by_cases hl : xs.length = ys.length
  · have hl' : (xs.length != ys.length) = false := by simp [hl]
    have HL := Lib.hid hl; clear hl
    go_enter Try.func9, Try.ntmps9
    go_wp2
    clear hl'
    go_loopw [5] (fun i wr => ∃ k : Nat, k ≤ xs.length ∧ i = .int .i64 k ∧ Quiet w wr ∧ ∀ j (hj : j < xs.length) (hj' : j < ys.length), j < k → xs[j] = ys[j]) (fun i _ => xs.length - (intOf i).toNat)
    case atStart => exact ⟨0, Nat.zero_le _, rfl, Quiet.refl _, fun j _ _ hj => absurd hj (Nat.not_lt_zero _)⟩
    case round =>
      obtain ⟨k, hk, rfl, ⟨q, rfl⟩, hno⟩ := hrel
      have HN := Lib.hid hno; clear hno
      by_cases hlt : k < xs.length
      · obtain ⟨b, o, hb, rfl, hx, hc, h1, h2⟩ := RInts.get h k hlt
        have hlt' : k < ys.length := by rw [← HL.out]; exact hlt
        obtain ⟨b', o', hb', rfl, hx', hc', h1', h2'⟩ := RInts.get g k hlt'
        have i1 : (k : Int) < (xs.length : Int) := by omega
        have i2 : (k : Int) < (ys.length : Int) := by omega
        by_cases e : xs[k] = ys[k]
        · have hd : (xs[k] != ys[k]) = false := by simp [e]
          have HE := Lib.hid e; clear e
          go_wp2
          go_quiet (fail)
          go_wp2
          go_roundw
          case rel => exact ⟨k + 1, by omega, by go_num, (by first | exact Quiet.refl _ | exact Quiet.drewN _ _ | exact (Quiet.drewN _ _).more _), fun j hj hj' hjk => by
            by_cases e : j = k
            · subst e; exact HE.out
            · exact HN.out j hj hj' (by omega)⟩
          case measure => simp [intOf]; omega
        · have hd : (xs[k] != ys[k]) = true := by simp [e]
          have HE := Lib.hid e; clear e
          go_wp2
          go_quiet (fail)
          go_wp2
          go_ret
          exact ⟨ret_bool (decide_eq_false (fun e => HE.out (by subst e; rfl))).symm, (by first | exact Quiet.refl _ | exact Quiet.drewN _ _ | exact (Quiet.drewN _ _).more _)⟩
      · go_wp2
        go_ret
        exact ⟨ret_bool (decide_eq_true (List.ext_getElem HL.out (fun j hj hj' => HN.out j hj hj' (by omega)))).symm, (by first | exact Quiet.refl _ | exact Quiet.drewN _ _ | exact (Quiet.drewN _ _).more _)⟩
  · have hl' : (xs.length != ys.length) = true := by simp [hl]
    have HL := Lib.hid hl; clear hl
    go_enter Try.func9, Try.ntmps9
    go_wp2
    go_ret
    exact ⟨ret_bool (decide_eq_false (fun e => HL.out (by rw [e]))).symm, 0, rfl⟩

set_option maxHeartbeats 400000 in
theorem below_any (S : Nat → Prop) (v : Value) (xs : List Int) (n : Int) (w : World) (h : RInts S w [v] xs) :
    Calls Try.prog 10 #[v, .int .i64 n] w fun e w' => e = .returned (.bool (hasF n xs)) ∧ Quiet w w' := by
  go_enter Try.func10, Try.ntmps10
  go_wp2_with (go_at_call 18; refine (contains_any S v xs n _ h).mono ?_; rintro e w' ⟨rfl, rfl⟩)
  go_ret
  exact ⟨rfl, (by first | exact Quiet.refl _ | exact Quiet.drewN _ _ | exact (Quiet.drewN _ _).more _)⟩

set_option maxHeartbeats 400000 in
theorem place_any (S : Nat → Prop) (v : Value) (xs : List Int) (n : Int) (w : World) (h : RInts S w [v] xs) :
    Calls Try.prog 12 #[v, .int .i64 n] w fun e w' => e = .returned (.int .i64 (idxF n xs)) ∧ Quiet w w' := by
  obtain ⟨a, cap, rfl, hcap, hmax⟩ := h.form
  unfold maxLen at hmax
  go_enter Try.func12, Try.ntmps12
  go_wp2
  go_loopw [5] (fun i wr => ∃ k : Nat, k ≤ xs.length ∧ i = .int .i64 k ∧ Quiet w wr ∧ ∀ j (hj : j < xs.length), j < k → xs[j] ≠ n) (fun i _ => xs.length - (intOf i).toNat)
  case atStart => exact ⟨0, Nat.zero_le _, rfl, (by first | exact Quiet.refl _ | exact Quiet.drewN _ _ | exact (Quiet.drewN _ _).more _), fun j _ hj => absurd hj (Nat.not_lt_zero _)⟩
  case round =>
    obtain ⟨k, hk, rfl, ⟨q, rfl⟩, hno⟩ := hrel
    have HN := Lib.hid hno; clear hno
    by_cases hlt : k < xs.length
    · obtain ⟨b, o, hb, rfl, hx, hc, h1, h2⟩ := RInts.get h k hlt
      by_cases e : xs[k] = n
      · have hd : (xs[k] == n) = true := by simp [e]
        have hfin := idxF_at n xs k hx HN.out e
        have HF := Lib.hid hfin; clear hfin
        have HE := Lib.hid e; clear e
        go_wp2
        go_ret
        exact ⟨ret_int HF.out.symm, (by first | exact Quiet.refl _ | exact Quiet.drewN _ _ | exact (Quiet.drewN _ _).more _)⟩
      · have hd : (xs[k] == n) = false := by simp [e]
        clear e
        go_wp2
        go_roundw
        case rel => exact ⟨k + 1, by omega, by go_num, (by first | exact Quiet.refl _ | exact Quiet.drewN _ _ | exact (Quiet.drewN _ _).more _), fun j hj hjk => by
          by_cases e : j = k
          · subst e; simpa using hd
          · exact HN.out j hj (by omega)⟩
        case measure => simp [intOf]; omega
    · go_wp2
      go_ret
      exact ⟨ret_int (idxF_none n xs (fun j hj => HN.out j hj (by omega))).symm, (by first | exact Quiet.refl _ | exact Quiet.drewN _ _ | exact (Quiet.drewN _ _).more _)⟩

set_option maxHeartbeats 400000 in
theorem has_any (S : Nat → Prop) (v : Value) (xs : List Int) (f : Nat) (n : Int) (w : World) (h : RInts S w [v] xs) (hf : f ≤ 9223372036854775807) :
    Calls Try.prog 11 #[v, .int .i64 f, .int .i64 n] w fun e w' => e = .returned (.bool (hasF n (xs.drop f))) ∧ Quiet w w' := by
  obtain ⟨a, cap, rfl, hcap, hmax⟩ := h.form
  unfold maxLen at hmax
  go_enter Try.func11, Try.ntmps11
  go_wp2
  go_loopw [7] (fun i wr => ∃ k : Nat, f ≤ k ∧ (k ≤ xs.length ∨ k = f) ∧ i = .int .i64 k ∧ Quiet w wr ∧ ∀ j (hj : j < xs.length), f ≤ j → j < k → xs[j] ≠ n) (fun i _ => xs.length - (intOf i).toNat)
  case atStart => exact ⟨f, Nat.le_refl _, .inr rfl, rfl, (by first | exact Quiet.refl _ | exact Quiet.drewN _ _ | exact (Quiet.drewN _ _).more _), fun j _ hj hj' => absurd hj' (by omega)⟩
  case round =>
    obtain ⟨k, hfk, hk, rfl, ⟨q, rfl⟩, hno⟩ := hrel
    have HN := Lib.hid hno; clear hno
    by_cases hlt : k < xs.length
    · obtain ⟨b, o, hb, rfl, hx, hc, h1, h2⟩ := RInts.get h k hlt
      by_cases e : xs[k] = n
      · have hd : (xs[k] == n) = true := by simp [e]
        have hfin : hasF n (xs.drop f) = true := by
          rw [hasF_iff]
          refine List.mem_iff_getElem.2 ⟨k - f, by simp; omega, ?_⟩
          rw [List.getElem_drop]
          simp only [show f + (k - f) = k from by omega]
          exact e
        have HF := Lib.hid hfin; clear hfin
        have HE := Lib.hid e; clear e
        go_wp2
        go_ret
        exact ⟨ret_bool HF.out.symm, (by first | exact Quiet.refl _ | exact Quiet.drewN _ _ | exact (Quiet.drewN _ _).more _)⟩
      · have hd : (xs[k] == n) = false := by simp [e]
        clear e
        go_wp2
        go_roundw
        case rel => exact ⟨k + 1, by omega, .inl (by omega), by go_num, (by first | exact Quiet.refl _ | exact Quiet.drewN _ _ | exact (Quiet.drewN _ _).more _), fun j hj hfj hjk => by
          by_cases e : j = k
          · subst e; simpa using hd
          · exact HN.out j hj hfj (by omega)⟩
        case measure => simp [intOf]; omega
    · go_wp2
      go_ret
      refine ⟨ret_bool ?_, (by first | exact Quiet.refl _ | exact Quiet.drewN _ _ | exact (Quiet.drewN _ _).more _)⟩
      symm
      rw [← Bool.not_eq_true, hasF_iff]
      intro hm
      obtain ⟨j, hj, e⟩ := List.getElem_of_mem hm
      rw [List.getElem_drop] at e
      exact HN.out (f + j) (by simp at hj; omega) (by omega) (by simp at hj; omega) e
end Go.Proofs.Ythmhcpfplmhgnaa
