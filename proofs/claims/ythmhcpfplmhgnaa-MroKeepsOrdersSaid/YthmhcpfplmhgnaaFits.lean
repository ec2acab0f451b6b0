/- tail, keeps, fits and the reference's Fit, each by what it computes. -/
import Derived.Test.YthmhcpfplmhgnaaInts
import Derived.Deep.QuietTactic
import Derived.BigQuiet
namespace Go.Proofs.Ythmhcpfplmhgnaa
open Go.ChangeShapes Go.WideShapes Go.ChangeAt Go.RowKit
set_option linter.unusedSimpArgs false
set_option linter.unusedVariables false

theorem Try.size3 : (Try.prog.info? 3).map (·.size) = some 1 := by kernel_rfl
theorem Try.sizeRow : (Try.prog.info? 24).map (·.size) = some 1 := by kernel_rfl

def tailF (l : List Int) (c : Int) : Bool := hasF c l.tail
set_option maxHeartbeats 400000 in
theorem tail_any (S : Nat → Prop) (v : Value) (xs : List Int) (n : Int) (w : World) (h : RInts S w [v] xs) :
    Calls Try.prog 22 #[v, .int .i64 n] w fun e w' => e = .returned (.bool (tailF xs n)) ∧ Quiet w w' := by
  by_cases hl : 0 < xs.length
  · obtain ⟨v', hrun, h'⟩ := h.low Try.underlying24 Try.size3 1 hl
    obtain ⟨a, cap, rfl, hcap, hmax⟩ := h.form
    unfold maxLen at hmax
    have hr : ∀ w', (Instr.slice 24 (.slice a xs.length cap) (some (.int .i64 1)) none none).run Try.prog w' = .ok v' w' := hrun
    clear hrun
    go_enter Try.func22, Try.ntmps22
    go_wp2_with (go_at_call 18; refine (contains_any S _ _ n _ h').mono ?_; rintro e w' ⟨rfl, rfl⟩)
    go_ret
    exact ⟨ret_bool (by unfold tailF; simp), (by first | exact Quiet.refl _ | exact Quiet.drewN _ _ | exact (Quiet.drewN _ _).more _)⟩
  · obtain ⟨a, cap, rfl, hcap, hmax⟩ := h.form
    unfold maxLen at hmax
    have hz : xs.length = 0 := by omega
    have hx : xs = [] := List.length_eq_zero_iff.1 hz
    subst hx
    go_enter Try.func22, Try.ntmps22
    go_wp2
    go_ret
    exact ⟨rfl, (by first | exact Quiet.refl _ | exact Quiet.drewN _ _ | exact (Quiet.drewN _ _).more _)⟩

/-- A class's bases fit: no number twice, each from 0 on and below the class. -/
def GoodRow (c : Nat) (l : List Int) : Prop := l.Nodup ∧ ∀ x ∈ l, 0 ≤ x ∧ x < c
def Fits (bs : List (List Int)) : Prop := ∀ c (h : c < bs.length), GoodRow c bs[c]
theorem nodup_take {l : List Int} (h : l.Nodup) (i : Nat) (hi : i < l.length) : l[i] ∉ l.take i := by
  intro hm
  obtain ⟨j, hj, e⟩ := List.getElem_of_mem hm
  have hj' : j < i := by simp at hj; omega
  rw [List.getElem_take] at e
  have := (List.getElem_inj h).1 e
  omega
theorem nodup_drop {l : List Int} (h : l.Nodup) (i : Nat) (hi : i < l.length) : l[i] ∉ l.drop (i + 1) := by
  intro hm
  obtain ⟨j, hj, e⟩ := List.getElem_of_mem hm
  have hj' : j < l.length - (i + 1) := by simpa using hj
  rw [List.getElem_drop] at e
  have := (List.getElem_inj h).1 e
  omega
theorem nodup_of_take {l : List Int} (h : ∀ i (hi : i < l.length), l[i] ∉ l.take i) : l.Nodup := by
  rw [List.nodup_iff_pairwise_ne, List.pairwise_iff_getElem]
  intro i j hi hj hij e
  exact h j hj (List.mem_iff_getElem.2 ⟨i, by simp; omega, by rw [List.getElem_take]; exact e⟩)
theorem nodup_of_drop {l : List Int} (h : ∀ i (hi : i < l.length), l[i] ∉ l.drop (i + 1)) : l.Nodup := by
  rw [List.nodup_iff_pairwise_ne, List.pairwise_iff_getElem]
  intro i j hi hj hij e
  exact h i hi (List.mem_iff_getElem.2 ⟨j - (i + 1), by simp; omega, by rw [List.getElem_drop]; simp only [show i + 1 + (j - (i + 1)) = j from by omega]; exact e.symm⟩)
def SaysFits (bs : List (List Int)) (w : World) (e : Ending) (w' : World) : Prop := ∃ b : Bool, e = .returned (.bool b) ∧ (b = true ↔ Fits bs) ∧ Quiet w w'
theorem saysNo {bs : List (List Int)} {w w' : World} (h : ¬ Fits bs) (hq : Quiet w w') : SaysFits bs w (.returned (.bool false)) w' := ⟨false, rfl, by simp [h], hq⟩
theorem saysYes {bs : List (List Int)} {w w' : World} (h : Fits bs) (hq : Quiet w w') : SaysFits bs w (.returned (.bool true)) w' := ⟨true, rfl, by simp [h], hq⟩

set_option maxHeartbeats 800000 in
theorem fits_any (S : Nat → Prop) (v : Value) (bs : List (List Int)) (w : World) (h : RRows S w [v] bs) :
    Calls Try.prog 14 #[v] w (SaysFits bs w) := by
  obtain ⟨a, cap, rfl, hcap, hmax⟩ := h.form
  unfold maxLen at hmax
  go_enter Try.func14, Try.ntmps14
  go_wp2
  go_loopw [9] (fun i wr => ∃ k : Nat, k ≤ bs.length ∧ i = .int .i64 k ∧ Quiet w wr ∧ ∀ j (hj : j < bs.length), j < k → GoodRow j bs[j]) (fun i _ => bs.length - (intOf i).toNat)
  case atStart => exact ⟨0, Nat.zero_le _, rfl, (by first | exact Quiet.refl _ | exact Quiet.drewN _ _ | exact (Quiet.drewN _ _).more _), fun j _ hj => absurd hj (Nat.not_lt_zero _)⟩
  case round =>
    obtain ⟨k, hk, rfl, ⟨q, rfl⟩, hno⟩ := hrel
    have HN := Lib.hid hno; clear hno
    by_cases hlt : k < bs.length
    · obtain ⟨b, o, hb, rfl, hx, u, hu, hc⟩ := h.get1 k hlt
      obtain ⟨a', cap', rfl, hcap', hmax'⟩ := hu.form
      unfold maxLen at hmax'
      generalize hl : bs[k] = l at *
      have HL := Lib.hid hl; clear hl
      go_wp2
      go_loopw [16] (fun i wr => ∃ j : Nat, j ≤ l.length ∧ i = .int .i64 j ∧ Quiet w wr ∧ ∀ t (ht : t < l.length), t < j → (0 ≤ l[t] ∧ l[t] < k) ∧ l[t] ∉ l.take t) (fun i _ => l.length - (intOf i).toNat)
      case atStart => exact ⟨0, Nat.zero_le _, rfl, (by first | exact Quiet.refl _ | exact Quiet.drewN _ _ | exact (Quiet.drewN _ _).more _), fun j _ hj => absurd hj (Nat.not_lt_zero _)⟩
      case round =>
        obtain ⟨j, hj, rfl, ⟨q', rfl⟩, hin⟩ := hrel
        have HI := Lib.hid hin; clear hin
        by_cases hjl : j < l.length
        · obtain ⟨b', o', hb', rfl, hx', hc', h1, h2⟩ := RInts.get hu j hjl
          obtain ⟨v', hrun, h'⟩ := hu.high Try.underlying24 Try.size3 j (Nat.le_of_lt hjl)
          generalize hxj : l[j] = x at *
          have HX := Lib.hid hxj; clear hxj
          by_cases g1 : x < 0
          · go_wp2
            go_ret
            refine saysNo (fun hf => ?_) (by first | exact Quiet.refl _ | exact Quiet.drewN _ _ | exact (Quiet.drewN _ _).more _)
            have hf' := (hf k hlt).2 x (by rw [HL.out, ← HX.out]; exact List.getElem_mem _)
            omega
          · by_cases g2 : (k : Int) ≤ x
            · go_wp2
              go_ret
              refine saysNo (fun hf => ?_) (by first | exact Quiet.refl _ | exact Quiet.drewN _ _ | exact (Quiet.drewN _ _).more _)
              have hf' := (hf k hlt).2 x (by rw [HL.out, ← HX.out]; exact List.getElem_mem _)
              omega
            · cases g3 : hasF x (l.take j)
              · go_wp2_with (go_at_call 18; refine (contains_any S _ _ x _ ((Quiet.drewN w q').agree S |> fun A => RInts.good.keep A h')).mono ?_; rintro e w' ⟨rfl, rfl⟩)
                go_roundw
                case rel => exact ⟨j + 1, by omega, by go_num, (by first | exact Quiet.refl _ | exact Quiet.drewN _ _ | exact (Quiet.drewN _ _).more _), fun t ht htj => by
                  by_cases e : t = j
                  · subst e
                    rw [HX.out]
                    exact ⟨by omega, fun hm => by rw [(hasF_iff _ _).2 hm] at g3; cases g3⟩
                  · exact HI.out t ht (by omega)⟩
                case measure => simp [intOf]; omega
              · go_wp2_with (go_at_call 18; refine (contains_any S _ _ x _ ((Quiet.drewN w q').agree S |> fun A => RInts.good.keep A h')).mono ?_; rintro e w' ⟨rfl, rfl⟩)
                go_ret
                refine saysNo (fun hf => ?_) (by first | exact Quiet.refl _ | exact Quiet.drewN _ _ | exact (Quiet.drewN _ _).more _)
                have hn := nodup_take (hf k hlt).1 j (by rw [HL.out]; exact hjl)
                simp only [HL.out, HX.out] at hn
                exact hn ((hasF_iff _ _).1 g3)
        · go_wp2
          go_roundw
          case rel => exact ⟨k + 1, by omega, by go_num, (by first | exact Quiet.refl _ | exact Quiet.drewN _ _ | exact (Quiet.drewN _ _).more _), fun t ht htk => by
            by_cases e : t = k
            · subst e
              rw [HL.out]
              refine ⟨nodup_of_take fun i hi => (HI.out i hi (by omega)).2, fun x hx => ?_⟩
              obtain ⟨i, hi, e⟩ := List.getElem_of_mem hx
              rw [← e]; exact (HI.out i hi (by omega)).1
            · exact HN.out t ht (by omega)⟩
          case measure => simp [intOf]; omega
    · go_wp2
      go_ret
      exact saysYes (fun c hc => HN.out c hc (by omega)) (by first | exact Quiet.refl _ | exact Quiet.drewN _ _ | exact (Quiet.drewN _ _).more _)

set_option maxHeartbeats 800000 in
theorem fit_any (S : Nat → Prop) (v : Value) (bs : List (List Int)) (w : World) (h : RRows S w [v] bs) :
    Calls Try.prog 16 #[v] w (SaysFits bs w) := by
  obtain ⟨a, cap, rfl, hcap, hmax⟩ := h.form
  unfold maxLen at hmax
  go_enter Try.func16, Try.ntmps16
  go_wp2
  go_loopw [3] (fun i wr => ∃ k : Nat, k ≤ bs.length ∧ i = .int .i64 k ∧ Quiet w wr ∧ ∀ j (hj : j < bs.length), j < k → GoodRow j bs[j]) (fun i _ => bs.length - (intOf i).toNat)
  case atStart => exact ⟨0, Nat.zero_le _, rfl, (by first | exact Quiet.refl _ | exact Quiet.drewN _ _ | exact (Quiet.drewN _ _).more _), fun j _ hj => absurd hj (Nat.not_lt_zero _)⟩
  case round =>
    obtain ⟨k, hk, rfl, ⟨q, rfl⟩, hno⟩ := hrel
    have HN := Lib.hid hno; clear hno
    by_cases hlt : k < bs.length
    · obtain ⟨b, o, hb, rfl, hx, u, hu, hc⟩ := h.get1 k hlt
      obtain ⟨a', cap', rfl, hcap', hmax'⟩ := hu.form
      unfold maxLen at hmax'
      generalize hl : bs[k] = l at *
      have HL := Lib.hid hl; clear hl
      go_wp2
      go_loopw [5] (fun i wr => ∃ j : Nat, j ≤ l.length ∧ i = .int .i64 j ∧ Quiet w wr ∧ ∀ t (ht : t < l.length), t < j → (0 ≤ l[t] ∧ l[t] < k) ∧ l[t] ∉ l.drop (t + 1)) (fun i _ => l.length - (intOf i).toNat)
      case atStart => exact ⟨0, Nat.zero_le _, rfl, (by first | exact Quiet.refl _ | exact Quiet.drewN _ _ | exact (Quiet.drewN _ _).more _), fun j _ hj => absurd hj (Nat.not_lt_zero _)⟩
      case round =>
        obtain ⟨j, hj, rfl, ⟨q', rfl⟩, hin⟩ := hrel
        have HI := Lib.hid hin; clear hin
        by_cases hjl : j < l.length
        · obtain ⟨b', o', hb', rfl, hx', hc', h1, h2⟩ := RInts.get hu j hjl
          generalize hxj : l[j] = x at *
          have HX := Lib.hid hxj; clear hxj
          by_cases g1 : x < 0
          · go_wp2
            go_ret
            refine saysNo (fun hf => ?_) (by first | exact Quiet.refl _ | exact Quiet.drewN _ _ | exact (Quiet.drewN _ _).more _)
            have hf' := (hf k hlt).2 x (by rw [HL.out, ← HX.out]; exact List.getElem_mem _)
            omega
          · by_cases g2 : (k : Int) ≤ x
            · go_wp2
              go_ret
              refine saysNo (fun hf => ?_) (by first | exact Quiet.refl _ | exact Quiet.drewN _ _ | exact (Quiet.drewN _ _).more _)
              have hf' := (hf k hlt).2 x (by rw [HL.out, ← HX.out]; exact List.getElem_mem _)
              omega
            · cases g3 : hasF x (l.drop (j + 1))
              · go_wp2_with (go_at_call 11; refine (has_any S _ _ (j + 1) x _ ((Quiet.drewN w q').agree S |> fun A => RInts.good.keep A hu) (by omega)).mono ?_; rintro e w' ⟨rfl, q'', rfl⟩)
                go_roundw
                case rel => exact ⟨j + 1, by omega, by go_num, (by first | exact Quiet.refl _ | exact Quiet.drewN _ _ | exact (Quiet.drewN _ _).more _), fun t ht htj => by
                  by_cases e : t = j
                  · subst e
                    rw [HX.out]
                    exact ⟨by omega, fun hm => by rw [(hasF_iff _ _).2 hm] at g3; cases g3⟩
                  · exact HI.out t ht (by omega)⟩
                case measure => simp [intOf]; omega
              · go_wp2_with (go_at_call 11; refine (has_any S _ _ (j + 1) x _ ((Quiet.drewN w q').agree S |> fun A => RInts.good.keep A hu) (by omega)).mono ?_; rintro e w' ⟨rfl, q'', rfl⟩)
                go_ret
                refine saysNo (fun hf => ?_) (by first | exact Quiet.refl _ | exact Quiet.drewN _ _ | exact (Quiet.drewN _ _).more _)
                have hn := nodup_drop (hf k hlt).1 j (by rw [HL.out]; exact hjl)
                simp only [HL.out, HX.out] at hn
                exact hn ((hasF_iff _ _).1 g3)
        · go_wp2
          go_roundw
          case rel => exact ⟨k + 1, by omega, by go_num, (by first | exact Quiet.refl _ | exact Quiet.drewN _ _ | exact (Quiet.drewN _ _).more _), fun t ht htk => by
            by_cases e : t = k
            · subst e
              rw [HL.out]
              refine ⟨nodup_of_drop fun i hi => (HI.out i hi (by omega)).2, fun x hx => ?_⟩
              obtain ⟨i, hi, e⟩ := List.getElem_of_mem hx
              rw [← e]; exact (HI.out i hi (by omega)).1
            · exact HN.out t ht (by omega)⟩
          case measure => simp [intOf]; omega
    · go_wp2
      go_ret
      exact saysYes (fun c hc => HN.out c hc (by omega)) (by first | exact Quiet.refl _ | exact Quiet.drewN _ _ | exact (Quiet.drewN _ _).more _)

/-- Do the numbers of l stand in order, one behind the other, behind the place 'at'? -/
def keepsF (order : List Int) : Int → List Int → Bool
  | _, [] => true
  | at_, x :: l => if idxF x order ≤ at_ then false else keepsF order (idxF x order) l
theorem keepsF_drop (order l : List Int) (k : Nat) (h : k < l.length) (at_ : Int) : keepsF order at_ (l.drop k) = if idxF l[k] order ≤ at_ then false else keepsF order (idxF l[k] order) (l.drop (k + 1)) := by
  rw [List.drop_eq_getElem_cons h]; rfl
set_option maxHeartbeats 800000 in
theorem keeps_any (S : Nat → Prop) (u v : Value) (xs l : List Int) (w : World) (h : RInts S w [u] xs) (g : RInts S w [v] l) :
    Calls Try.prog 13 #[u, v] w fun e w' => e = .returned (.bool (keepsF xs (-1) l)) ∧ Quiet w w' := by
  obtain ⟨a, cap, rfl, hcap, hmax⟩ := g.form
  unfold maxLen at hmax
  go_enter Try.func13, Try.ntmps13
  go_wp2
  go_loopw [5, 6] (fun p i wr => ∃ (k : Nat) (t : Int), k ≤ l.length ∧ i = .int .i64 k ∧ p = .int .i64 t ∧ Quiet w wr ∧ keepsF xs (-1) l = keepsF xs t (l.drop k)) (fun _ i _ => l.length - (intOf i).toNat)
  case atStart => exact ⟨0, -1, Nat.zero_le _, rfl, rfl, (by first | exact Quiet.refl _ | exact Quiet.drewN _ _ | exact (Quiet.drewN _ _).more _), rfl⟩
  case round =>
    obtain ⟨k, t, hk, rfl, rfl, ⟨q, rfl⟩, hno⟩ := hrel
    have HN := Lib.hid hno; clear hno
    by_cases hlt : k < l.length
    · obtain ⟨b, o, hb, rfl, hx, hc, h1, h2⟩ := RInts.get g k hlt
      have hd := keepsF_drop xs l k hlt t
      generalize hxk : l[k] = x at *
      have HX := Lib.hid hxk; clear hxk
      have HD := Lib.hid hd; clear hd
      by_cases g1 : idxF x xs ≤ t
      · go_wp2_with (go_at_call 12; refine (place_any S _ _ x _ (RInts.good.keep ((Quiet.drewN w q).agree S) h)).mono ?_; rintro e w' ⟨rfl, q', rfl⟩)
        go_ret
        exact ⟨ret_bool (by rw [HN.out, HD.out, if_pos g1]), (by first | exact Quiet.refl _ | exact Quiet.drewN _ _ | exact (Quiet.drewN _ _).more _)⟩
      · go_wp2_with (go_at_call 12; refine (place_any S _ _ x _ (RInts.good.keep ((Quiet.drewN w q).agree S) h)).mono ?_; rintro e w' ⟨rfl, q', rfl⟩)
        go_roundw
        case rel => exact ⟨k + 1, _, by omega, by go_num, rfl, (by first | exact Quiet.refl _ | exact Quiet.drewN _ _ | exact (Quiet.drewN _ _).more _), by rw [HN.out, HD.out, if_neg (by omega)]⟩
        case measure => simp [intOf]; omega
    · go_wp2
      go_ret
      exact ⟨ret_bool (by rw [HN.out, List.drop_of_length_le (by omega)]; rfl), (by first | exact Quiet.refl _ | exact Quiet.drewN _ _ | exact (Quiet.drewN _ _).more _)⟩
end Go.Proofs.Ythmhcpfplmhgnaa
