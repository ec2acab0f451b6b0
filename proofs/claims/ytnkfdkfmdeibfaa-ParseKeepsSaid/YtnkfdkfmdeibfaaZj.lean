/- Parse, the program: its small steps, as runs over trees. Parse, the program: steps along the grammar. -/
import Derived.Test.YtnkfdkfmdeibfaaZi
section
namespace Go.Proofs.Ytnkfdkfmdeibfaa
namespace Can
open Go Go.RowKit
set_option linter.unusedSimpArgs false
set_option linter.unusedVariables false
set_option maxRecDepth 4000
attribute [local irreducible] TC isT nowT begT
section
variable {Z : TP} {X : Pan} {W : Int → Value} {ts : List PT} {sl : Sl} {R : Value → Prop} {Q : AV → List SV → Prop} {E : Nat → Prop} {P : List Nd → Nat → Prop} {i : Nat}
theorem rd_inc (C : PCtx Z X W ts sl) (h : i < ts.length) {a : AV} (hQ : Q a (rdS sl (i + 1))) : Q a [SV.sc (.slice sl.q sl.n sl.c), SV.sc (.int .i64 (IntKind.wrap .i64 ((i : Int) + 1)))] := by
  rw [wr_inc h C.len]; exact hQ
theorem is_tc2 (C : PCtx Z X W ts sl) {s : List UInt8} (hs : s ≠ []) (hi : i ≤ ts.length) (h1 : isT ts i s = true → Q (rS (.bool true)) (rdS sl i)) (h2 : isT ts i s = false → Q (rS (.bool false)) (rdS sl i)) : TC Z (tblG Try.prog LG GG) X 35 [.ptr 0 0, rS (.string ⟨⟨s⟩⟩)] (rdR sl i) Q R := by
  refine is_tc C hs hi ?_
  cases hb : isT ts i s with
  | true => exact h1 hb
  | false => exact h2 hb
theorem has_tc (C : PCtx Z X W ts sl) {s : List UInt8} (hs : s ≠ []) (hi : i ≤ ts.length) (h1 : isT ts i s = true → i < ts.length → Q (rS (.bool true)) (rdS sl (i + 1))) (h2 : isT ts i s = false → Q (rS (.bool false)) (rdS sl i)) : TC Z (tblG Try.prog LG GG) X 20 [.ptr 0 0, rS (.string ⟨⟨s⟩⟩)] (rdR sl i) Q R := by
  refine tc_rG dt_ok (by rfl) (by kernel_rfl) ?_
  conv in (rF _ _).body => reduce
  conv in (rF _ _).res => reduce
  conv => whnf
  refine is_tc C hs hi ?_
  cases hb : isT ts i s with
  | false =>
    conv => whnf
    exact h2 hb
  | true =>
    conv => whnf
    exact rd_inc C (isT_lt' hb) (h1 hb (isT_lt' hb))
theorem want_tc (C : PCtx Z X W ts sl) {s : List UInt8} (hs : s ≠ []) (hi : i ≤ ts.length) (h1 : isT ts i s = true → i < ts.length → Q (.tup []) (rdS sl (i + 1))) (h2 : isT ts i s = false → R (W (nowT ts i).line)) : TC Z (tblG Try.prog LG GG) X 23 [.ptr 0 0, rS (.string ⟨⟨s⟩⟩)] (rdR sl i) Q R := by
  refine tc_rG dt_ok (by rfl) (by kernel_rfl) ?_
  conv in (rF _ _).body => reduce
  conv in (rF _ _).res => reduce
  conv => whnf
  refine has_tc C hs hi (fun hb hl => ?_) (fun hb => ?_)
  · conv => whnf
    exact h1 hb hl
  · conv => whnf
    exact C.fail i _ _ hi (h2 hb)
theorem wantKind_tc (C : PCtx Z X W ts sl) {k : Int} (h0 : k ≠ 0) (hi : i ≤ ts.length) (h1 : (nowT ts i).kind = k → i < ts.length → Q (rS (.string ⟨⟨(nowT ts i).text⟩⟩)) (rdS sl (i + 1))) (h2 : (nowT ts i).kind ≠ k → R (W (nowT ts i).line)) : TC Z (tblG Try.prog LG GG) X 27 [.ptr 0 0, rS (.int .i64 k)] (rdR sl i) Q R := by
  refine tc_rG dt_ok (by rfl) (by kernel_rfl) ?_
  conv in (rF _ _).body => reduce
  conv in (rF _ _).res => reduce
  conv => whnf
  refine now_tc C hi ?_
  conv => whnf
  refine ifT_c (fun hb => ?_) (fun hb => ?_)
  · conv => whnf
    refine C.fail i _ _ hi (h2 ?_)
    simpa using hb
  · have hk : (nowT ts i).kind = k := by simpa using hb
    have hl : i < ts.length := kd_lt (by rw [hk]; exact h0)
    conv => whnf
    exact rd_inc C hl (h1 hk hl)
theorem begins_tc (C : PCtx Z X W ts sl) (hi : i ≤ ts.length) (hQ : Q (rS (.bool (begT ts i))) (rdS sl i)) : TC Z (tblG Try.prog LG GG) X 40 [.ptr 0 0] (rdR sl i) Q R := by
  refine tc_rG dt_ok (by rfl) (by kernel_rfl) ?_
  conv in (rF _ _).body => reduce
  conv in (rF _ _).res => reduce
  conv => whnf
  refine now_tc C hi ?_
  obtain ⟨t, ht⟩ : ∃ t, nowT ts i = t := ⟨_, rfl⟩
  have hw := @beg_w ts i
  have hs := @beg_s ts i
  have hk := @beg_k ts i
  have hn := @beg_n ts i
  rw [ht] at hw hs hk hn ⊢
  obtain ⟨kd, ln, tx⟩ := t
  by_cases k4 : kd = 4
  · subst k4
    rw [hk (show (4 : Int) ≤ 4 ∧ (4 : Int) ≤ 7 by decide)] at hQ
    conv => whnf
    exact hQ
  by_cases k5 : kd = 5
  · subst k5
    rw [hk (show (4 : Int) ≤ 5 ∧ (5 : Int) ≤ 7 by decide)] at hQ
    conv => whnf
    exact hQ
  by_cases k6 : kd = 6
  · subst k6
    rw [hk (show (4 : Int) ≤ 6 ∧ (6 : Int) ≤ 7 by decide)] at hQ
    conv => whnf
    exact hQ
  by_cases k7 : kd = 7
  · subst k7
    rw [hk (show (4 : Int) ≤ 7 ∧ (7 : Int) ≤ 7 by decide)] at hQ
    conv => whnf
    exact hQ
  by_cases k8 : kd = 8
  · subst k8
    conv => whnf
    refine is_tc2 C (by decide) hi (fun (b0 : isT ts i s_lambda = true) => ?_) fun (b0 : isT ts i s_lambda = false) => ?_
    · conv => whnf
      rw [hw rfl, b0] at hQ
      exact hQ
    conv => whnf
    refine is_tc2 C (by decide) hi (fun (b1 : isT ts i s_not = true) => ?_) fun (b1 : isT ts i s_not = false) => ?_
    · conv => whnf
      rw [hw rfl, b0, b1] at hQ
      exact hQ
    conv => whnf
    refine is_tc2 C (by decide) hi (fun (b2 : isT ts i s_None = true) => ?_) fun (b2 : isT ts i s_None = false) => ?_
    · conv => whnf
      rw [hw rfl, b0, b1, b2] at hQ
      exact hQ
    conv => whnf
    refine is_tc2 C (by decide) hi (fun (b3 : isT ts i s_True = true) => ?_) fun (b3 : isT ts i s_True = false) => ?_
    · conv => whnf
      rw [hw rfl, b0, b1, b2, b3] at hQ
      exact hQ
    conv => whnf
    refine is_tc2 C (by decide) hi (fun (b4 : isT ts i s_False = true) => ?_) fun (b4 : isT ts i s_False = false) => ?_
    · conv => whnf
      rw [hw rfl, b0, b1, b2, b3, b4] at hQ
      exact hQ
    conv => whnf
    rw [hw rfl, b0, b1, b2, b3, b4] at hQ
    exact hQ
  by_cases k9 : kd = 9
  · subst k9
    conv => whnf
    refine is_tc2 C (by decide) hi (fun (b0 : isT ts i s_plus = true) => ?_) fun (b0 : isT ts i s_plus = false) => ?_
    · conv => whnf
      rw [hs rfl, b0] at hQ
      exact hQ
    conv => whnf
    refine is_tc2 C (by decide) hi (fun (b1 : isT ts i s_minus = true) => ?_) fun (b1 : isT ts i s_minus = false) => ?_
    · conv => whnf
      rw [hs rfl, b0, b1] at hQ
      exact hQ
    conv => whnf
    refine is_tc2 C (by decide) hi (fun (b2 : isT ts i s_lpar = true) => ?_) fun (b2 : isT ts i s_lpar = false) => ?_
    · conv => whnf
      rw [hs rfl, b0, b1, b2] at hQ
      exact hQ
    conv => whnf
    refine is_tc2 C (by decide) hi (fun (b3 : isT ts i s_lbrk = true) => ?_) fun (b3 : isT ts i s_lbrk = false) => ?_
    · conv => whnf
      rw [hs rfl, b0, b1, b2, b3] at hQ
      exact hQ
    conv => whnf
    refine is_tc2 C (by decide) hi (fun (b4 : isT ts i s_lbrc = true) => ?_) fun (b4 : isT ts i s_lbrc = false) => ?_
    · conv => whnf
      rw [hs rfl, b0, b1, b2, b3, b4] at hQ
      exact hQ
    conv => whnf
    rw [hs rfl, b0, b1, b2, b3, b4] at hQ
    exact hQ
  rw [hn (by simp only; omega) k8 k9] at hQ
  conv => whnf
  refine ifT_c (fun h => absurd (by simpa using h) k4) fun _ => ?_
  conv => whnf
  refine ifT_c (fun h => absurd (by simpa using h) k5) fun _ => ?_
  conv => whnf
  refine ifT_c (fun h => absurd (by simpa using h) k6) fun _ => ?_
  conv => whnf
  refine ifT_c (fun h => absurd (by simpa using h) k7) fun _ => ?_
  conv => whnf
  refine ifT_c (fun h => absurd (by simpa using h) k8) fun _ => ?_
  conv => whnf
  refine ifT_c (fun h => absurd (by simpa using h) k9) fun _ => ?_
  conv => whnf
  exact hQ
theorem augment_tc (C : PCtx Z X W ts sl) (hi : i ≤ ts.length) (h1 : augT ts i ≠ 0 → i < ts.length → Q (rS (.int .i64 (augT ts i : Nat))) (rdS sl (i + 1))) (h2 : augT ts i = 0 → Q (rS (.int .i64 0)) (rdS sl i)) : TC Z (tblG Try.prog LG GG) X 55 [.ptr 0 0] (rdR sl i) Q R := by
  refine tc_rG dt_ok (by rfl) (by kernel_rfl) ?_
  conv in (rF _ _).body => reduce
  conv in (rF _ _).res => reduce
  conv => whnf
  refine has_tc C (by decide) hi (fun (b0 : isT ts i s_plusA = true) hl => ?_) (fun (b0 : isT ts i s_plusA = false) => ?_)
  · conv => whnf
    have e : augT ts i = 1 := by simp [augT, b0]
    have h1 := h1 (by rw [e]; decide) hl
    rw [e] at h1
    exact h1
  conv => whnf
  refine has_tc C (by decide) hi (fun (b1 : isT ts i s_minusA = true) hl => ?_) (fun (b1 : isT ts i s_minusA = false) => ?_)
  · conv => whnf
    have e : augT ts i = 2 := by simp [augT, b0, b1]
    have h1 := h1 (by rw [e]; decide) hl
    rw [e] at h1
    exact h1
  conv => whnf
  refine has_tc C (by decide) hi (fun (b2 : isT ts i s_starA = true) hl => ?_) (fun (b2 : isT ts i s_starA = false) => ?_)
  · conv => whnf
    have e : augT ts i = 3 := by simp [augT, b0, b1, b2]
    have h1 := h1 (by rw [e]; decide) hl
    rw [e] at h1
    exact h1
  conv => whnf
  refine has_tc C (by decide) hi (fun (b3 : isT ts i s_slashA = true) hl => ?_) (fun (b3 : isT ts i s_slashA = false) => ?_)
  · conv => whnf
    have e : augT ts i = 4 := by simp [augT, b0, b1, b2, b3]
    have h1 := h1 (by rw [e]; decide) hl
    rw [e] at h1
    exact h1
  conv => whnf
  refine has_tc C (by decide) hi (fun (b4 : isT ts i s_dslashA = true) hl => ?_) (fun (b4 : isT ts i s_dslashA = false) => ?_)
  · conv => whnf
    have e : augT ts i = 5 := by simp [augT, b0, b1, b2, b3, b4]
    have h1 := h1 (by rw [e]; decide) hl
    rw [e] at h1
    exact h1
  conv => whnf
  refine has_tc C (by decide) hi (fun (b5 : isT ts i s_pctA = true) hl => ?_) (fun (b5 : isT ts i s_pctA = false) => ?_)
  · conv => whnf
    have e : augT ts i = 6 := by simp [augT, b0, b1, b2, b3, b4, b5]
    have h1 := h1 (by rw [e]; decide) hl
    rw [e] at h1
    exact h1
  conv => whnf
  refine has_tc C (by decide) hi (fun (b6 : isT ts i s_dstarA = true) hl => ?_) (fun (b6 : isT ts i s_dstarA = false) => ?_)
  · conv => whnf
    have e : augT ts i = 7 := by simp [augT, b0, b1, b2, b3, b4, b5, b6]
    have h1 := h1 (by rw [e]; decide) hl
    rw [e] at h1
    exact h1
  conv => whnf
  exact h2 (by simp [augT, b0, b1, b2, b3, b4, b5, b6])
theorem operator_tc (C : PCtx Z X W ts sl) (hi : i ≤ ts.length) (hE : ∀ e, opT ts i = .error e → R (W (nowT ts e).line)) (hQ : ∀ op j, opT ts i = .ok (op, j) → j ≤ ts.length → Q (rS (.int .i64 (op : Nat))) (rdS sl j)) : TC Z (tblG Try.prog LG GG) X 80 [.ptr 0 0] (rdR sl i) Q R := by
  refine tc_rG dt_ok (by rfl) (by kernel_rfl) ?_
  conv in (rF _ _).body => reduce
  conv in (rF _ _).res => reduce
  conv => whnf
  refine has_tc C (by decide) hi (fun (b0 : isT ts i s_eqeq = true) hl => ?_) (fun (b0 : isT ts i s_eqeq = false) => ?_)
  · conv => whnf
    exact hQ 1 (i + 1) (by simp [opT, b0]) hl
  conv => whnf
  refine has_tc C (by decide) hi (fun (b1 : isT ts i s_bne = true) hl => ?_) (fun (b1 : isT ts i s_bne = false) => ?_)
  · conv => whnf
    exact hQ 2 (i + 1) (by simp [opT, b0, b1]) hl
  conv => whnf
  refine has_tc C (by decide) hi (fun (b2 : isT ts i s_lt = true) hl => ?_) (fun (b2 : isT ts i s_lt = false) => ?_)
  · conv => whnf
    exact hQ 3 (i + 1) (by simp [opT, b0, b1, b2]) hl
  conv => whnf
  refine has_tc C (by decide) hi (fun (b3 : isT ts i s_le = true) hl => ?_) (fun (b3 : isT ts i s_le = false) => ?_)
  · conv => whnf
    exact hQ 4 (i + 1) (by simp [opT, b0, b1, b2, b3]) hl
  conv => whnf
  refine has_tc C (by decide) hi (fun (b4 : isT ts i s_gt = true) hl => ?_) (fun (b4 : isT ts i s_gt = false) => ?_)
  · conv => whnf
    exact hQ 5 (i + 1) (by simp [opT, b0, b1, b2, b3, b4]) hl
  conv => whnf
  refine has_tc C (by decide) hi (fun (b5 : isT ts i s_ge = true) hl => ?_) (fun (b5 : isT ts i s_ge = false) => ?_)
  · conv => whnf
    exact hQ 6 (i + 1) (by simp [opT, b0, b1, b2, b3, b4, b5]) hl
  conv => whnf
  refine has_tc C (by decide) hi (fun (b6 : isT ts i s_in = true) hl => ?_) (fun (b6 : isT ts i s_in = false) => ?_)
  · conv => whnf
    exact hQ 7 (i + 1) (by simp [opT, b0, b1, b2, b3, b4, b5, b6]) hl
  conv => whnf
  refine has_tc C (by decide) hi (fun (b7 : isT ts i s_not = true) hl => ?_) (fun (b7 : isT ts i s_not = false) => ?_)
  · conv => whnf
    refine want_tc C (by decide) hl (fun (c0 : isT ts (i + 1) s_in = true) hl => ?_) (fun (c0 : isT ts (i + 1) s_in = false) => ?_)
    · conv => whnf
      exact hQ 8 (i + 2) (by simp [opT, b0, b1, b2, b3, b4, b5, b6, b7, c0]) hl
    · exact hE (i + 1) (by simp [opT, b0, b1, b2, b3, b4, b5, b6, b7, c0])
  conv => whnf
  refine has_tc C (by decide) hi (fun (b8 : isT ts i s_is = true) hl => ?_) (fun (b8 : isT ts i s_is = false) => ?_)
  · conv => whnf
    refine has_tc C (by decide) hl (fun (c0 : isT ts (i + 1) s_not = true) hl => ?_) (fun (c0 : isT ts (i + 1) s_not = false) => ?_)
    · conv => whnf
      exact hQ 10 (i + 2) (by simp [opT, b0, b1, b2, b3, b4, b5, b6, b7, b8, c0]) hl
    · conv => whnf
      exact hQ 9 (i + 1) (by simp [opT, b0, b1, b2, b3, b4, b5, b6, b7, b8, c0]) hl
  conv => whnf
  exact hQ 0 i (by simp [opT, b0, b1, b2, b3, b4, b5, b6, b7, b8]) hi
end
end Can
end Go.Proofs.Ytnkfdkfmdeibfaa
end
section
namespace Go.Proofs.Ytnkfdkfmdeibfaa
namespace Can
open Go Go.RowKit
set_option linter.unusedSimpArgs false
set_option linter.unusedVariables false
set_option maxRecDepth 4000
attribute [local irreducible] TC isT nowT begT
theorem gr_post {ts : List PT} {f : Nat} {a : NT} {i : Nat} (hg : a.good) (hi : i ≤ ts.length) {E : Nat → Prop} {P : List Nd → Nat → Prop} (h : Gd E P (gr ts f a i)) : Gd (fun e => E e ∧ e ≤ ts.length) (fun l j => P l j ∧ a.post i ts.length l j) (gr ts f a i) := by
  cases hr : gr ts f a i with
  | none => rw [hr] at h; exact h
  | some r =>
    have h1 := gr_gd (ts := ts) (max f (ts.length * 64 + a.rank + 1)) a i hg hi (by omega)
    rw [gr_mono (Nat.le_max_left ..) hr] at h1
    rw [hr] at h
    match r, h, h1 with
    | .error e, h, h1 => exact ⟨h, h1.2⟩
    | .ok (l, j), h, h1 => exact ⟨h, h1⟩
def ans1 : List Nd → AV
  | [t] => ndA t
  | _ => .bad
def ansL (l : List Nd) : AV := .r (.c (.s (.row 5 (ndsS l))))
def AccV (acc : List Nd) (c : CV) : Prop := (acc = [] ∧ c = .s (.row 5 [])) ∨ (acc ≠ [] ∧ c = .own 0 28 5 (ndsS acc))
theorem accV_app {acc : List Nd} {t : Nd} {g : List (List SV)} (h : g = ndsS acc ++ [ndS t]) : AccV (acc ++ [t]) (.own 0 28 5 g) := .inr ⟨by simp, by rw [h, ndsS_app]; rfl⟩
theorem ndsS_snoc {acc : List Nd} {t : Nd} : ndsS (acc ++ [t]) = ndsS acc ++ [ndS t] := by rw [ndsS_app]; rfl
theorem sn_agg {a b c d : CV} {acc : List Nd} {t : Nd} {g : List (List SV)} (h : g = ndsS acc ++ [ndS t]) : AV.r (.agg [a, b, c, d, CV.s (.row 5 g)]) = AV.r (.agg [a, b, c, d, CV.s (.row 5 (ndsS (acc ++ [t])))]) := by rw [h, ndsS_snoc]
theorem sn_row {acc : List Nd} {t : Nd} {g : List (List SV)} (h : g = ndsS acc ++ [ndS t]) : AV.r (.c (CV.s (.row 5 g))) = AV.r (.c (CV.s (.row 5 (ndsS (acc ++ [t]))))) := by rw [h, ndsS_snoc]
theorem wr_dec {acc : List Nd} (hne : acc ≠ []) (hm : (ndsS acc).length ≤ maxLen) : IntKind.wrap .i64 (((ndsS acc).length : Int) - 1) = ((acc.length - 1 : Nat) : Int) := by
  rw [ndsS_len] at hm ⊢
  rw [maxLen_eq] at hm
  have : acc.length ≠ 0 := fun e => hne (List.length_eq_zero_iff.1 e)
  rw [w_i64 (by omega) (by omega)]; omega
theorem last_get {acc : List Nd} {t : Nd} (h : acc.getLast? = some t) : acc[acc.length - 1]? = some t := by rw [← h, List.getLast?_eq_getElem?]
theorem gd_pk1 {E : Nat → Prop} {P : List Nd → Nat → Prop} {t : Nd} {j : Nat} {k : Nd → Nat → PR} (h : Gd E (fun l j => ∃ t, l = [t] ∧ Gd E P (k t j)) (pk1 t j)) : Gd E P (k t j) := by
  obtain ⟨t', e, h⟩ := h
  cases e; exact h
theorem bdA {m : Nat} (h : m ≤ 2199023255552) : BdA m 64 := ⟨by omega, by rw [maxLen_eq]; omega⟩
theorem q_eq {Q : AV → List SV → Prop} {a a' : AV} {s s' : List SV} (ha : a = a') (hs : s = s') (h : Q a' s') : Q a s := by rw [ha, hs]; exact h
theorem len1_c {E : Nat → Prop} {P : List Nd → Nat → Prop} {acc : List Nd} {A B : PR} {b : Bool} {yes no : Prop} (hG : Gd E P (if acc.length = 1 then A else B)) (hb : b = true ↔ acc.length = 1) (h1 : Gd E P A → yes) (h2 : Gd E P B → no) : ifT b yes no := by
  refine ifT_c (fun h => ?_) fun h => ?_
  · rw [if_pos (hb.1 h)] at hG; exact h1 hG
  · rw [if_neg (fun g => by rw [hb.2 g] at h; cases h)] at hG; exact h2 hG
theorem ite_andP {p q : Prop} [Decidable p] [Decidable q] {a b : PR} : (if p ∧ q then a else b) = if p then (if q then a else b) else b := by
  by_cases hp : p <;> by_cases hq : q <;> simp [hp, hq]
abbrev oN (cs : List CV) : Nat × TypeId × List CV := (0, 28, cs)
abbrev nzC : List CV := [cS (.int .i64 0), cS (.int .i64 0), cS (.string ⟨⟨[]⟩⟩), cS (.int .i64 0), .s (.row 5 [])]
abbrev nC (k : Nat) (l : Int) (x : List UInt8) (o : Nat) (c : CV) : List CV := [cS (.int .i64 (k : Nat)), cS (.int .i64 l), cS (.string ⟨⟨x⟩⟩), cS (.int .i64 (o : Nat)), c]
abbrev nA (k : Nat) (l : Int) (x : List UInt8) (o : Nat) (ks : List Nd) : List CV := nC k l x o (.s (.row 5 (ndsS ks)))
abbrev oR (sl : Sl) (j : Nat) : Nat × TypeId × List CV := (0, 43, [cS (.slice sl.q sl.n sl.c), cS (.int .i64 (j : Nat))])
def PC (Z : TP) (X : Pan) (W : Int → Value) (ts : List PT) (sl : Sl) (f : Nat) (a : NT) (F : FuncId) (args : List AV) (ans : List Nd → AV) : Prop :=
  ∀ (i : Nat) (Q : AV → List SV → Prop) (R : Value → Prop) (E : Nat → Prop) (P : List Nd → Nat → Prop), i ≤ ts.length → Gd E P (gr ts f a i) → (∀ e, E e → R (W (nowT ts e).line)) → (∀ l j, P l j → j ≤ ts.length → Q (ans l) (rdS sl j)) → TC Z (tblG Try.prog LG GG) X F args (rdR sl i) Q R
section
variable {Z : TP} {X : Pan} {W : Int → Value} {ts : List PT} {sl : Sl} {R : Value → Prop} {Q : AV → List SV → Prop} {E : Nat → Prop} {P : List Nd → Nat → Prop} {i : Nat}
theorem has_st (C : PCtx Z X W ts sl) {s : List UInt8} {A B : PR} (hG : Gd E P (if isT ts i s = true then A else B)) (hs : s ≠ []) (hi : i ≤ ts.length) (h1 : i < ts.length → Gd E P A → Q (rS (.bool true)) (rdS sl (i + 1))) (h2 : Gd E P B → Q (rS (.bool false)) (rdS sl i)) : TC Z (tblG Try.prog LG GG) X 20 [.ptr 0 0, rS (.string ⟨⟨s⟩⟩)] (rdR sl i) Q R := by
  refine has_tc C hs hi (fun h hl => ?_) (fun h => ?_)
  · rw [if_pos h] at hG; exact h1 hl hG
  · rw [if_neg (by rw [h]; decide)] at hG; exact h2 hG
theorem is_st (C : PCtx Z X W ts sl) {s : List UInt8} {A B : PR} (hG : Gd E P (if isT ts i s = true then A else B)) (hs : s ≠ []) (hi : i ≤ ts.length) (h1 : isT ts i s = true → i < ts.length → Gd E P A → Q (rS (.bool true)) (rdS sl i)) (h2 : isT ts i s = false → Gd E P B → Q (rS (.bool false)) (rdS sl i)) : TC Z (tblG Try.prog LG GG) X 35 [.ptr 0 0, rS (.string ⟨⟨s⟩⟩)] (rdR sl i) Q R := by
  refine is_tc2 C hs hi (fun h => ?_) (fun h => ?_)
  · rw [if_pos h] at hG; exact h1 h (isT_lt' h) hG
  · rw [if_neg (by rw [h]; decide)] at hG; exact h2 h hG
theorem is_stf (C : PCtx Z X W ts sl) {s : List UInt8} {A B : PR} (hG : Gd E P (if isT ts i s = false then A else B)) (hs : s ≠ []) (hi : i ≤ ts.length) (h1 : Gd E P B → Q (rS (.bool true)) (rdS sl i)) (h2 : Gd E P A → Q (rS (.bool false)) (rdS sl i)) : TC Z (tblG Try.prog LG GG) X 35 [.ptr 0 0, rS (.string ⟨⟨s⟩⟩)] (rdR sl i) Q R := by
  refine is_tc2 C hs hi (fun h => ?_) (fun h => ?_)
  · rw [if_neg (by rw [h]; decide)] at hG; exact h1 hG
  · rw [if_pos h] at hG; exact h2 hG
theorem want_kn (C : PCtx Z X W ts sl) {s : List UInt8} (hs : s ≠ []) (hi : i ≤ ts.length) (hb : isT ts i s = true) (h1 : i < ts.length → Q (.tup []) (rdS sl (i + 1))) : TC Z (tblG Try.prog LG GG) X 23 [.ptr 0 0, rS (.string ⟨⟨s⟩⟩)] (rdR sl i) Q R :=
  want_tc C hs hi (fun _ hl => h1 hl) fun h => by rw [hb] at h; cases h
theorem rd_wr (C : PCtx Z X W ts sl) (h : i < ts.length) : [SV.sc (.slice sl.q sl.n sl.c), SV.sc (.int .i64 (IntKind.wrap .i64 ((i : Int) + 1)))] = rdS sl (i + 1) := by
  rw [wr_inc h C.len]; rfl
theorem begins_st (C : PCtx Z X W ts sl) {A B : PR} (hG : Gd E P (if begT ts i = true then A else B)) (hi : i ≤ ts.length) (h1 : Gd E P A → Q (rS (.bool true)) (rdS sl i)) (h2 : Gd E P B → Q (rS (.bool false)) (rdS sl i)) : TC Z (tblG Try.prog LG GG) X 40 [.ptr 0 0] (rdR sl i) Q R := by
  refine begins_tc C hi ?_
  cases h : begT ts i with
  | true => rw [if_pos h] at hG; exact h1 hG
  | false => rw [if_neg (by rw [h]; decide)] at hG; exact h2 hG
theorem kind_st (C : PCtx Z X W ts sl) {k : Int} {A B : PR} (hG : Gd E P (if (nowT ts i).kind = k then A else B)) (h0 : k ≠ 0) (hi : i ≤ ts.length) (h1 : i < ts.length → Gd E P A → Q (rS (.bool true)) (rdS sl i)) (h2 : Gd E P B → Q (rS (.bool false)) (rdS sl i)) : TC Z (tblG Try.prog LG GG) X 38 [.ptr 0 0, rS (.int .i64 k)] (rdR sl i) Q R := by
  refine kind_tc C hi ?_
  by_cases h : (nowT ts i).kind = k
  · rw [if_pos h] at hG; rw [decide_eq_true h]; exact h1 (kd_lt (by rw [h]; exact h0)) hG
  · rw [if_neg h] at hG; rw [decide_eq_false h]; exact h2 hG
theorem want_st (C : PCtx Z X W ts sl) {s : List UInt8} {k : Nat → PR} (hG : Gd E P (wantB ts s i k)) (hs : s ≠ []) (hi : i ≤ ts.length) (hE : ∀ e, E e → R (W (nowT ts e).line)) (h1 : i < ts.length → Gd E P (k (i + 1)) → Q (.tup []) (rdS sl (i + 1))) : TC Z (tblG Try.prog LG GG) X 23 [.ptr 0 0, rS (.string ⟨⟨s⟩⟩)] (rdR sl i) Q R := by
  unfold wantB at hG
  refine want_tc C hs hi (fun h hl => ?_) (fun h => ?_)
  · rw [if_pos h] at hG; exact h1 hl hG
  · rw [if_neg (by rw [h]; decide)] at hG; exact hE _ hG
theorem wantK_st (C : PCtx Z X W ts sl) {kd : Int} {k : List UInt8 → Nat → PR} (hG : Gd E P (wantK ts kd i k)) (h0 : kd ≠ 0) (hi : i ≤ ts.length) (hE : ∀ e, E e → R (W (nowT ts e).line)) (h1 : i < ts.length → Gd E P (k (nowT ts i).text (i + 1)) → Q (rS (.string ⟨⟨(nowT ts i).text⟩⟩)) (rdS sl (i + 1))) : TC Z (tblG Try.prog LG GG) X 27 [.ptr 0 0, rS (.int .i64 kd)] (rdR sl i) Q R := by
  unfold wantK at hG
  refine wantKind_tc C h0 hi (fun h hl => ?_) (fun h => ?_)
  · rw [if_pos h] at hG; exact h1 hl hG
  · rw [if_neg h] at hG; exact hE _ hG
theorem fail_st (C : PCtx Z X W ts sl) (hi : i ≤ ts.length) (hG : Gd E P (some (.error i))) (hE : ∀ e, E e → R (W (nowT ts e).line)) : TC Z (tblG Try.prog LG GG) X 37 [.ptr 0 0] (rdR sl i) Q R := C.fail i Q R hi (hE i hG)
theorem operator_st (C : PCtx Z X W ts sl) {A : PR} {B : Nat → Nat → PR} (hG : Gd E P (match opT ts i with | .error e => some (.error e) | .ok (0, _) => A | .ok (op + 1, j) => B op j)) (hi : i ≤ ts.length) (hE : ∀ e, E e → R (W (nowT ts e).line)) (h0 : Gd E P A → Q (rS (.int .i64 0)) (rdS sl i)) (h1 : ∀ op j, i < j → j ≤ ts.length → Gd E P (B op j) → Q (rS (.int .i64 ((op + 1 : Nat) : Int))) (rdS sl j)) : TC Z (tblG Try.prog LG GG) X 80 [.ptr 0 0] (rdR sl i) Q R := by
  have ho := opT_gd hi
  refine operator_tc C hi (fun e h => ?_) (fun op j h hj => ?_)
  · rw [h] at hG; exact hE e hG
  · rw [h] at hG ho
    cases op with
    | zero =>
      rcases ho with ⟨_, e⟩ | ⟨h, _⟩
      · subst e; exact h0 hG
      · exact absurd rfl h
    | succ op =>
      rcases ho with ⟨h, _⟩ | ⟨_, h2, _⟩
      · cases h
      · exact h1 op j h2 hj hG
theorem augment_st (C : PCtx Z X W ts sl) {A B : PR} (hG : Gd E P (if augT ts i = 0 then A else B)) (hi : i ≤ ts.length) (h1 : augT ts i ≠ 0 → i < ts.length → Gd E P B → Q (rS (.int .i64 (augT ts i : Nat))) (rdS sl (i + 1))) (h2 : Gd E P A → Q (rS (.int .i64 0)) (rdS sl i)) : TC Z (tblG Try.prog LG GG) X 55 [.ptr 0 0] (rdR sl i) Q R := by
  refine augment_tc C hi (fun h hl => ?_) (fun h => ?_)
  · rw [if_neg h] at hG; exact h1 h hl hG
  · rw [if_pos h] at hG; exact h2 hG
theorem rul_st {f : Nat} {a : NT} {F : FuncId} {args : List AV} (h : PC Z X W ts sl f a F args ans1) {k : Nd → Nat → PR} (hG : Gd E P (pb1 (gr ts f a i) k)) (hg : a.good) (ha : a.acc = none) (hE : ∀ e, E e → R (W (nowT ts e).line)) (hi : i ≤ ts.length) (h1 : ∀ n l x o ks j, i + a.min ≤ j → j ≤ ts.length → Gd E P (k (.mk n l x o ks) j) → Q (ndA (.mk n l x o ks)) (rdS sl j)) : TC Z (tblG Try.prog LG GG) X F args (rdR sl i) Q R := by
  rw [gd_pb1] at hG
  refine h i Q R _ _ hi (gr_post hg hi hG) (fun e he => hE e he.1) fun l j ⟨⟨t, e, hP⟩, hp⟩ hj => ?_
  subst e
  obtain ⟨n, l, x, o, ks⟩ := t
  exact h1 n l x o ks j hp.1 hp.2.1 hP
theorem lst_st {f : Nat} {a : NT} {F : FuncId} {args : List AV} (h : PC Z X W ts sl f a F args ansL) {k : List Nd → Nat → PR} (hG : Gd E P (pb (gr ts f a i) k)) (hg : a.good) (ha : a.acc = some (a.acc.getD 0)) (hE : ∀ e, E e → R (W (nowT ts e).line)) (hi : i ≤ ts.length) (h1 : ∀ l j, i ≤ j → j ≤ ts.length → 2 * l.length + i ≤ 2 * a.acc.getD 0 + j + 1 → Gd E P (k l j) → Q (ansL l) (rdS sl j)) : TC Z (tblG Try.prog LG GG) X F args (rdR sl i) Q R := by
  rw [gd_pb] at hG
  refine h i Q R _ _ hi (gr_post hg hi hG) (fun e he => hE e he.1) fun l j ⟨hP, hp⟩ hj => ?_
  obtain ⟨p1, p2, p3⟩ := hp
  rw [ha] at p3
  exact h1 l j (by omega) p2 p3.1 hP
theorem tal_st {f : Nat} {a : NT} {F : FuncId} {args : List AV} (h : PC Z X W ts sl f a F args ans1) (hG : Gd E P (gr ts f a i)) (hg : a.good) (ha : a.acc = none) (hE : ∀ e, E e → R (W (nowT ts e).line)) (hi : i ≤ ts.length) (h1 : ∀ n l x o ks j, i + a.min ≤ j → j ≤ ts.length → P [.mk n l x o ks] j → Q (ndA (.mk n l x o ks)) (rdS sl j)) : TC Z (tblG Try.prog LG GG) X F args (rdR sl i) Q R := by
  refine h i Q R _ _ hi (gr_post hg hi hG) (fun e he => hE e he.1) fun l j ⟨hP, hp⟩ hj => ?_
  have h3 := hp.2.2
  rw [ha] at h3
  obtain ⟨t, rfl⟩ := nd_one_of h3
  obtain ⟨n, l, x, o, ks⟩ := t
  exact h1 n l x o ks j hp.1 hp.2.1 hP
end
end Can
end Go.Proofs.Ytnkfdkfmdeibfaa
end
