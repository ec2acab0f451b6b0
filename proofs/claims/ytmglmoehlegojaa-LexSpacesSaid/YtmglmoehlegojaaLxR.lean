/- Lex: the reader's loops over bytes. -/
import Derived.Test.YtmglmoehlegojaaLxS
namespace Go.Proofs.Ytmglmoehlegojaa
namespace Can
open Go Go.RowKit
set_option linter.unusedSimpArgs false
set_option linter.unusedVariables false
set_option maxRecDepth 4000
theorem peek0 {A K : CH} {p : Nat} {src : List UInt8} {s : RS} {vo vt : Value} {m : Nat} (h : RdAt A K p src s vo vt m) {Q : Value → CH → Prop} : WpF (tblG Try.prog LG GG) 31 [.pointer (some ⟨p, 0, none⟩), .int .i64 0] K Q ↔ Q (.int .u8 (hd (src.drop s.pos) : Nat)) K := wpF_iff (peek_wp h 0 (by decide))
theorem peek1 {A K : CH} {p : Nat} {src : List UInt8} {s : RS} {vo vt : Value} {m : Nat} (h : RdAt A K p src s vo vt m) {Q : Value → CH → Prop} : WpF (tblG Try.prog LG GG) 31 [.pointer (some ⟨p, 0, none⟩), .int .i64 1] K Q ↔ Q (.int .u8 (hd (src.drop (s.pos + 1)) : Nat)) K := wpF_iff (peek_wp h 1 (by decide))
theorem peek2 {A K : CH} {p : Nat} {src : List UInt8} {s : RS} {vo vt : Value} {m : Nat} (h : RdAt A K p src s vo vt m) {Q : Value → CH → Prop} : WpF (tblG Try.prog LG GG) 31 [.pointer (some ⟨p, 0, none⟩), .int .i64 2] K Q ↔ Q (.int .u8 (hd (src.drop (s.pos + 2)) : Nat)) K := wpF_iff (peek_wp h 2 (by decide))
theorem drop_len {l : List UInt8} {j : Nat} (h : 0 < (l.drop j).length) : j < l.length := by simp at h; omega
def atS (s : RS) (j : Nat) : RS := { s with pos := s.pos + j }
theorem atS_bd {s : RS} {j : Nat} (h : s.Bd) (hj : s.pos + j ≤ 100000) : (atS s j).Bd := ⟨hj, h.line, h.dep, h.err, h.wh, h.out⟩
theorem nW_bnd {p : Nat → Bool} {l : List UInt8} {j : Nat} : j + nW p (l.drop j) ≤ max j l.length := by
  have := nW_le (p := p) (l := l.drop j)
  simp at this
  omega
theorem run_wp {A K : CH} {p : Nat} {src : List UInt8} {s : RS} {vo vt : Value} {m : Nat} (h : RdAt A K p src s vo vt m) (hp : s.pos ≤ 50000) :
    WpF (tblG Try.prog LG GG) 42 [.pointer (some ⟨p, 0, none⟩)] K fun v K' => RdAt A K' p src (atS s (digN (src.drop s.pos))) vo vt m := by
  have hsl := h.sl
  refine wpF_rG (by rfl) (by kernel_rfl) ?_; (conv in (rF _ _).body => reduce); (conv in (rF _ _).res => reduce)
  simp only [↓RD]
  have hle := nW_le (p := isDigN) (l := src.drop s.pos)
  simp only [List.length_drop] at hle
  refine loop_w (fun n fr K1 => ∃ j, n = digN (src.drop s.pos) - j ∧ j + nW isDigN (src.drop (s.pos + j)) = digN (src.drop s.pos) ∧ RdAt A K1 p src (atS s j) vo vt m) (n := digN (src.drop s.pos)) ⟨0, rfl, by simp [digN], h⟩ ?_
  rintro n fr K1 ⟨j, rfl, hj, h1⟩ hag
  have hp1 := @peek0 _ _ _ _ _ _ _ _ h1
  have hpd : (atS s j).pos = s.pos + j := rfl
  rw [hpd] at hp1
  have hob := h1.ob
  have hpl := h1.pl
  have hdb : digN (src.drop s.pos) ≤ src.length - s.pos := hle
  cases hd1 : isDigN (hd (src.drop (s.pos + j))) with
  | true =>
    have hpos : 0 < (src.drop (s.pos + j)).length := by
      cases hq : src.drop (s.pos + j) with
      | nil => rw [hq] at hd1; cases hd1
      | cons c r => simp
    have hlt := drop_len hpos
    have hyes := nW_yes hlt hd1
    repeat' (first | (simp (disch := first | omega | (decide +kernel) | (repeat first | assumption | exact HExt.refl _ | refine HExt.set ?_ (by first | omega | (simp only [new_nx, set_nx]; omega)) _ | refine HExt.new ?_ _)) only [↓RD, RU, accW_t, accW_f, isW, ↓putF_get, ↓putF_none, ↓evF_t, ↓evF_c, ↓evF_f, new_nx, set_nx, new_get, set_get, getD_zero, getD_succ, u_not, pop, lop, aop, wop, resL, resV, tupleV, akV, isVal, isCell, Value.cells, ρ0, ρ1, ρ2, ρ3, ρ4, ↓reduceIte, Nat.reduceEqDiff, Nat.reduceAdd, Int.reduceOfNat, Int.reduceNegSucc, reduceCtorEq, ρ5, ρ6, ρ7, ρ8, srcR_c, src_n, src_v, src_s, bnd, lenV, capV, ρ9, ρ10, ρ11, ρ12, ρ13, ρ14, ρ15, ρ16, ρ17, ρ18, ρ19, ρ20, ρ21, ρ22, ρ23, ρ24, Kd.isRo, ρ25, ρ26, bldV, Nat.reduceLeDiff, Int.reduceMul, Int.reduceAdd, Int.reduceSub, Int.reduceToNat, maxLen_eq, zeros_one, appS_some, appV_n, appV_v, appH_t, appH_f, Kd.isEx, ρ27, partV, CH.set_set, lkV, lkR, isKey, mupV, nxtV, ρ28, ρ29, hag, hp1, digit_iff, hd1, hob, hpd, n1]) | (with_reducible first | refine condK_dec (fun _ => ?_) fun _ => ?_ | refine grd_dec (fun _ => ?_) fun _ => ?_ | refine egrd_dec (fun _ => ?_) fun _ => ?_))
    exact ⟨_, by simp only [digN] at *; omega, j + 1, rfl, by simp only [← Nat.add_assoc]; omega, h1.set (s' := atS s (j + 1)) rfl rfl (atS_bd h.bd (by omega))⟩
  | false =>
    have hno := nW_no (p := isDigN) (.inr hd1)
    repeat' (first | (simp (disch := first | omega | (decide +kernel) | (repeat first | assumption | exact HExt.refl _ | refine HExt.set ?_ (by first | omega | (simp only [new_nx, set_nx]; omega)) _ | refine HExt.new ?_ _)) only [↓RD, RU, accW_t, accW_f, isW, ↓putF_get, ↓putF_none, ↓evF_t, ↓evF_c, ↓evF_f, new_nx, set_nx, new_get, set_get, getD_zero, getD_succ, u_not, pop, lop, aop, wop, resL, resV, tupleV, akV, isVal, isCell, Value.cells, ρ0, ρ1, ρ2, ρ3, ρ4, ↓reduceIte, Nat.reduceEqDiff, Nat.reduceAdd, Int.reduceOfNat, Int.reduceNegSucc, reduceCtorEq, ρ5, ρ6, ρ7, ρ8, srcR_c, src_n, src_v, src_s, bnd, lenV, capV, ρ9, ρ10, ρ11, ρ12, ρ13, ρ14, ρ15, ρ16, ρ17, ρ18, ρ19, ρ20, ρ21, ρ22, ρ23, ρ24, Kd.isRo, ρ25, ρ26, bldV, Nat.reduceLeDiff, Int.reduceMul, Int.reduceAdd, Int.reduceSub, Int.reduceToNat, maxLen_eq, zeros_one, appS_some, appV_n, appV_v, appH_t, appH_f, Kd.isEx, ρ27, partV, CH.set_set, lkV, lkR, isKey, mupV, nxtV, ρ28, ρ29, hag, hp1, digit_iff, hd1]) | (with_reducible first | refine condK_dec (fun _ => ?_) fun _ => ?_ | refine grd_dec (fun _ => ?_) fun _ => ?_ | refine egrd_dec (fun _ => ?_) fun _ => ?_))
    all_goals
      have e : digN (src.drop s.pos) = j := by omega
      rw [e]
      exact h1
def n32 (n : Nat) : Bool := decide (n = 32)
def n10 (n : Nat) : Bool := decide (n ≠ 10)
theorem blank_wp {A K : CH} {p : Nat} {src : List UInt8} {s : RS} {vo vt : Value} {m : Nat} (h : RdAt A K p src s vo vt m) (hp : s.pos ≤ 50000) :
    WpF (tblG Try.prog LG GG) 26 [.pointer (some ⟨p, 0, none⟩)] K fun v K' => RdAt A K' p src (atS s (blkN (src.drop s.pos))) vo vt m := by
  have hsl := h.sl
  refine wpF_rG (by rfl) (by kernel_rfl) ?_; (conv in (rF _ _).body => reduce); (conv in (rF _ _).res => reduce)
  simp only [↓RD]
  obtain ⟨N, hN⟩ : ∃ N, nW (fun n => decide (n = 32)) (src.drop s.pos) = N := ⟨_, rfl⟩
  have hle := nW_le (p := fun n => decide (n = 32)) (l := src.drop s.pos)
  simp only [List.length_drop] at hle
  rw [hN] at hle
  refine loop_w (fun n fr K1 => ∃ j, n = N - j ∧ j + nW (fun n => decide (n = 32)) (src.drop (s.pos + j)) = N ∧ RdAt A K1 p src (atS s j) vo vt m) (n := N) ⟨0, rfl, by simpa using hN, h⟩ ?_
  rintro n fr K1 ⟨j, rfl, hj, h1⟩ hag
  have hp1 := @peek0 _ _ _ _ _ _ _ _ h1
  have hpd : (atS s j).pos = s.pos + j := rfl
  rw [hpd] at hp1
  have hob := h1.ob
  have hpl := h1.pl
  by_cases hd1 : hd (src.drop (s.pos + j)) = 32
  · have hpos : 0 < (src.drop (s.pos + j)).length := hd_pos (by omega)
    have hlt := drop_len hpos
    have hyes := nW_yes (p := fun n => decide (n = 32)) hlt (by simp [hd1])
    repeat' (first | (simp (disch := first | omega | (decide +kernel) | (repeat first | assumption | exact HExt.refl _ | refine HExt.set ?_ (by first | omega | (simp only [new_nx, set_nx]; omega)) _ | refine HExt.new ?_ _)) only [↓RD, RU, accW_t, accW_f, isW, ↓putF_get, ↓putF_none, ↓evF_t, ↓evF_c, ↓evF_f, new_nx, set_nx, new_get, set_get, getD_zero, getD_succ, u_not, pop, lop, aop, wop, resL, resV, tupleV, akV, isVal, isCell, Value.cells, ρ0, ρ1, ρ2, ρ3, ρ4, ↓reduceIte, Nat.reduceEqDiff, Nat.reduceAdd, Int.reduceOfNat, Int.reduceNegSucc, reduceCtorEq, ρ5, ρ6, ρ7, ρ8, srcR_c, src_n, src_v, src_s, bnd, lenV, capV, ρ9, ρ10, ρ11, ρ12, ρ13, ρ14, ρ15, ρ16, ρ17, ρ18, ρ19, ρ20, ρ21, ρ22, ρ23, ρ24, Kd.isRo, ρ25, ρ26, bldV, Nat.reduceLeDiff, Int.reduceMul, Int.reduceAdd, Int.reduceSub, Int.reduceToNat, maxLen_eq, zeros_one, appS_some, appV_n, appV_v, appH_t, appH_f, Kd.isEx, ρ27, partV, CH.set_set, lkV, lkR, isKey, mupV, nxtV, ρ28, ρ29, hag, hp1, hd1, hob, hpd, n1, str_size]) | (with_reducible first | refine condK_dec (fun _ => ?_) fun _ => ?_ | refine grd_dec (fun _ => ?_) fun _ => ?_ | refine egrd_dec (fun _ => ?_) fun _ => ?_))
    all_goals exact ⟨_, by omega, j + 1, rfl, by simp only [← Nat.add_assoc]; omega, h1.set (s' := atS s (j + 1)) rfl rfl (atS_bd h.bd (by omega))⟩
  · have hno := nW_no (p := fun n => decide (n = 32)) (l := src.drop (s.pos + j)) (.inr (by simp [hd1]))
    have e : j = N := by omega
    subst e
    by_cases hc : hd (src.drop (s.pos + j)) = 35
    · have hb : blkN (src.drop s.pos) = j + nW (fun n => decide (n ≠ 10)) (src.drop (s.pos + j)) := by
        unfold blkN
        rw [hN, List.drop_drop, if_pos hc]
      rw [hb]
      repeat' (first | (simp (disch := first | omega | (decide +kernel) | (repeat first | assumption | exact HExt.refl _ | refine HExt.set ?_ (by first | omega | (simp only [new_nx, set_nx]; omega)) _ | refine HExt.new ?_ _)) only [↓RD, RU, accW_t, accW_f, isW, ↓putF_get, ↓putF_none, ↓evF_t, ↓evF_c, ↓evF_f, new_nx, set_nx, new_get, set_get, getD_zero, getD_succ, u_not, pop, lop, aop, wop, resL, resV, tupleV, akV, isVal, isCell, Value.cells, ρ0, ρ1, ρ2, ρ3, ρ4, ↓reduceIte, Nat.reduceEqDiff, Nat.reduceAdd, Int.reduceOfNat, Int.reduceNegSucc, reduceCtorEq, ρ5, ρ6, ρ7, ρ8, srcR_c, src_n, src_v, src_s, bnd, lenV, capV, ρ9, ρ10, ρ11, ρ12, ρ13, ρ14, ρ15, ρ16, ρ17, ρ18, ρ19, ρ20, ρ21, ρ22, ρ23, ρ24, Kd.isRo, ρ25, ρ26, bldV, Nat.reduceLeDiff, Int.reduceMul, Int.reduceAdd, Int.reduceSub, Int.reduceToNat, maxLen_eq, zeros_one, appS_some, appV_n, appV_v, appH_t, appH_f, Kd.isEx, ρ27, partV, CH.set_set, lkV, lkR, isKey, mupV, nxtV, ρ28, ρ29, hag, hp1, hd1, hc]) | (with_reducible first | refine condK_dec (fun _ => ?_) fun _ => ?_ | refine grd_dec (fun _ => ?_) fun _ => ?_ | refine egrd_dec (fun _ => ?_) fun _ => ?_))
      obtain ⟨M, hM⟩ : ∃ M, nW (fun n => decide (n ≠ 10)) (src.drop (s.pos + j)) = M := ⟨_, rfl⟩
      have hle2 := nW_le (p := fun n => decide (n ≠ 10)) (l := src.drop (s.pos + j))
      simp only [List.length_drop] at hle2
      rw [hM] at hle2 ⊢
      refine loop_w (fun n fr K2 => ∃ i, n = M - i ∧ i + nW (fun n => decide (n ≠ 10)) (src.drop (s.pos + j + i)) = M ∧ RdAt A K2 p src (atS s (j + i)) vo vt m) (n := M) ⟨0, rfl, by simpa using hM, h1⟩ ?_
      rintro n fr2 K2 ⟨i, rfl, hi, h2⟩ hag2
      have hpd2 : (atS s (j + i)).pos = s.pos + j + i := by show s.pos + (j + i) = _; omega
      have hob2 := h2.ob
      have hpl2 := h2.pl
      by_cases hlt2 : s.pos + j + i < src.length
      · have hg := get_pos hlt2
        have hh := hd_drop hlt2
        by_cases h10 : src[s.pos + j + i].toNat = 10
        · have hno2 := nW_no (p := fun n => decide (n ≠ 10)) (l := src.drop (s.pos + j + i)) (.inr (by simp [hh, h10]))
          have e2 : i = M := by omega
          subst e2
          repeat' (first | (simp (disch := first | omega | (decide +kernel) | (repeat first | assumption | exact HExt.refl _ | refine HExt.set ?_ (by first | omega | (simp only [new_nx, set_nx]; omega)) _ | refine HExt.new ?_ _)) only [↓RD, RU, accW_t, accW_f, isW, ↓putF_get, ↓putF_none, ↓evF_t, ↓evF_c, ↓evF_f, new_nx, set_nx, new_get, set_get, getD_zero, getD_succ, u_not, pop, lop, aop, wop, resL, resV, tupleV, akV, isVal, isCell, Value.cells, ρ0, ρ1, ρ2, ρ3, ρ4, ↓reduceIte, Nat.reduceEqDiff, Nat.reduceAdd, Int.reduceOfNat, Int.reduceNegSucc, reduceCtorEq, ρ5, ρ6, ρ7, ρ8, srcR_c, src_n, src_v, src_s, bnd, lenV, capV, ρ9, ρ10, ρ11, ρ12, ρ13, ρ14, ρ15, ρ16, ρ17, ρ18, ρ19, ρ20, ρ21, ρ22, ρ23, ρ24, Kd.isRo, ρ25, ρ26, bldV, Nat.reduceLeDiff, Int.reduceMul, Int.reduceAdd, Int.reduceSub, Int.reduceToNat, maxLen_eq, zeros_one, appS_some, appV_n, appV_v, appH_t, appH_f, Kd.isEx, ρ27, partV, CH.set_set, lkV, lkR, isKey, mupV, nxtV, ρ28, ρ29, hag2, hag, hob2, hpd2, str_size, str_get, hg, h10]) | (with_reducible first | refine condK_dec (fun _ => ?_) fun _ => ?_ | refine grd_dec (fun _ => ?_) fun _ => ?_ | refine egrd_dec (fun _ => ?_) fun _ => ?_))
          all_goals exact h2
        · have hyes2 := nW_yes (p := fun n => decide (n ≠ 10)) hlt2 (by simp [hh, h10])
          repeat' (first | (simp (disch := first | omega | (decide +kernel) | (repeat first | assumption | exact HExt.refl _ | refine HExt.set ?_ (by first | omega | (simp only [new_nx, set_nx]; omega)) _ | refine HExt.new ?_ _)) only [↓RD, RU, accW_t, accW_f, isW, ↓putF_get, ↓putF_none, ↓evF_t, ↓evF_c, ↓evF_f, new_nx, set_nx, new_get, set_get, getD_zero, getD_succ, u_not, pop, lop, aop, wop, resL, resV, tupleV, akV, isVal, isCell, Value.cells, ρ0, ρ1, ρ2, ρ3, ρ4, ↓reduceIte, Nat.reduceEqDiff, Nat.reduceAdd, Int.reduceOfNat, Int.reduceNegSucc, reduceCtorEq, ρ5, ρ6, ρ7, ρ8, srcR_c, src_n, src_v, src_s, bnd, lenV, capV, ρ9, ρ10, ρ11, ρ12, ρ13, ρ14, ρ15, ρ16, ρ17, ρ18, ρ19, ρ20, ρ21, ρ22, ρ23, ρ24, Kd.isRo, ρ25, ρ26, bldV, Nat.reduceLeDiff, Int.reduceMul, Int.reduceAdd, Int.reduceSub, Int.reduceToNat, maxLen_eq, zeros_one, appS_some, appV_n, appV_v, appH_t, appH_f, Kd.isEx, ρ27, partV, CH.set_set, lkV, lkR, isKey, mupV, nxtV, ρ28, ρ29, hag2, hag, hob2, hpd2, str_size, str_get, hg, h10, n1]) | (with_reducible first | refine condK_dec (fun _ => ?_) fun _ => ?_ | refine grd_dec (fun _ => ?_) fun _ => ?_ | refine egrd_dec (fun _ => ?_) fun _ => ?_))
          all_goals
            refine ⟨_, by omega, i + 1, rfl, by simp only [← Nat.add_assoc]; omega, ?_⟩
            have e : s.pos + j + i + 1 = s.pos + (j + (i + 1)) := by omega
            rw [e]
            exact h2.set (s' := atS s (j + (i + 1))) rfl rfl (atS_bd h.bd (by omega))
      · have hno2 := nW_no (p := fun n => decide (n ≠ 10)) (l := src.drop (s.pos + j + i)) (.inl (List.drop_eq_nil_of_le (by omega)))
        have e2 : i = M := by omega
        subst e2
        repeat' (first | (simp (disch := first | omega | (decide +kernel) | (repeat first | assumption | exact HExt.refl _ | refine HExt.set ?_ (by first | omega | (simp only [new_nx, set_nx]; omega)) _ | refine HExt.new ?_ _)) only [↓RD, RU, accW_t, accW_f, isW, ↓putF_get, ↓putF_none, ↓evF_t, ↓evF_c, ↓evF_f, new_nx, set_nx, new_get, set_get, getD_zero, getD_succ, u_not, pop, lop, aop, wop, resL, resV, tupleV, akV, isVal, isCell, Value.cells, ρ0, ρ1, ρ2, ρ3, ρ4, ↓reduceIte, Nat.reduceEqDiff, Nat.reduceAdd, Int.reduceOfNat, Int.reduceNegSucc, reduceCtorEq, ρ5, ρ6, ρ7, ρ8, srcR_c, src_n, src_v, src_s, bnd, lenV, capV, ρ9, ρ10, ρ11, ρ12, ρ13, ρ14, ρ15, ρ16, ρ17, ρ18, ρ19, ρ20, ρ21, ρ22, ρ23, ρ24, Kd.isRo, ρ25, ρ26, bldV, Nat.reduceLeDiff, Int.reduceMul, Int.reduceAdd, Int.reduceSub, Int.reduceToNat, maxLen_eq, zeros_one, appS_some, appV_n, appV_v, appH_t, appH_f, Kd.isEx, ρ27, partV, CH.set_set, lkV, lkR, isKey, mupV, nxtV, ρ28, ρ29, hag2, hag, hob2, hpd2, str_size]) | (with_reducible first | refine condK_dec (fun _ => ?_) fun _ => ?_ | refine grd_dec (fun _ => ?_) fun _ => ?_ | refine egrd_dec (fun _ => ?_) fun _ => ?_))
        all_goals exact h2
    · have hb : blkN (src.drop s.pos) = j := by
        unfold blkN
        rw [hN, List.drop_drop, if_neg hc]
      rw [hb]
      repeat' (first | (simp (disch := first | omega | (decide +kernel) | (repeat first | assumption | exact HExt.refl _ | refine HExt.set ?_ (by first | omega | (simp only [new_nx, set_nx]; omega)) _ | refine HExt.new ?_ _)) only [↓RD, RU, accW_t, accW_f, isW, ↓putF_get, ↓putF_none, ↓evF_t, ↓evF_c, ↓evF_f, new_nx, set_nx, new_get, set_get, getD_zero, getD_succ, u_not, pop, lop, aop, wop, resL, resV, tupleV, akV, isVal, isCell, Value.cells, ρ0, ρ1, ρ2, ρ3, ρ4, ↓reduceIte, Nat.reduceEqDiff, Nat.reduceAdd, Int.reduceOfNat, Int.reduceNegSucc, reduceCtorEq, ρ5, ρ6, ρ7, ρ8, srcR_c, src_n, src_v, src_s, bnd, lenV, capV, ρ9, ρ10, ρ11, ρ12, ρ13, ρ14, ρ15, ρ16, ρ17, ρ18, ρ19, ρ20, ρ21, ρ22, ρ23, ρ24, Kd.isRo, ρ25, ρ26, bldV, Nat.reduceLeDiff, Int.reduceMul, Int.reduceAdd, Int.reduceSub, Int.reduceToNat, maxLen_eq, zeros_one, appS_some, appV_n, appV_v, appH_t, appH_f, Kd.isEx, ρ27, partV, CH.set_set, lkV, lkR, isKey, mupV, nxtV, ρ28, ρ29, hag, hp1, hd1, hc]) | (with_reducible first | refine condK_dec (fun _ => ?_) fun _ => ?_ | refine grd_dec (fun _ => ?_) fun _ => ?_ | refine egrd_dec (fun _ => ?_) fun _ => ?_))
      all_goals exact h1
theorem RdAt.iter {A K : CH} {p : Nat} {src : List UInt8} {s : RS} {vo vt : Value} {m l : Nat} (h : RdAt A K p src s vo vt m) {a a' : ByteArray} {b b' : Nat} (hl : K.ob l = .siter a b) (hla : A.nx ≤ l) : RdAt A (K.set l (.siter a' b')) p src s vo vt m := by
  obtain ⟨bo, kd, c, os, h1, h2, h3, h4, h5⟩ := h.opn
  have hpl : p ≠ l := fun e => by have := h.ob; rw [e, hl] at this; cases this
  have hml : m ≠ l := fun e => by have := h.mp; rw [e, hl] at this; cases this
  have hbl : bo ≠ l := fun e => by rw [e, hl] at h4; cases h4
  refine ⟨by rw [set_get, if_neg hpl]; exact h.ob, h.pl, h.pa, ⟨bo, kd, c, os, h1, h2, h3, by rw [set_get, if_neg hbl]; exact h4, h5⟩, ?_, by rw [set_get, if_neg hml]; exact h.mp, h.ml, h.ma, h.E.set hla _, h.bd, h.sl⟩
  rcases h.out with g | ⟨b2, kd2, e2, g1, g2, g3, g4⟩
  · exact .inl g
  · refine .inr ⟨b2, kd2, e2, g1, g2, ?_, g4⟩
    rw [set_get, if_neg]
    · exact g3
    · intro e
      rw [e, hl] at g3; cases g3
theorem str_beq {a b : List UInt8} : (str a == str b) = decide (a = b) := by
  cases h : (str a == str b) with
  | true =>
    have := (Go.MapKept.bytes_beq _ _).1 h
    rw [decide_eq_true (by exact Array.mk.inj (ByteArray.mk.inj this))]
  | false =>
    rw [decide_eq_false fun e => by rw [e, (Go.MapKept.bytes_beq _ _).2 rfl] at h; cases h]
theorem findK_words {x : List UInt8} : ∀ {ws : List (List UInt8)} {n i : Nat},
    (x ∈ ws → ∃ j, findK 1 (.string (str x)) ((ws.zipIdx n).map fun x => ({ key := .string (str x.1), val := .int .i64 1, born := x.2 } : MapEntry)) i = some (some (j, .int .i64 1))) ∧
    (x ∉ ws → findK 1 (.string (str x)) ((ws.zipIdx n).map fun x => ({ key := .string (str x.1), val := .int .i64 1, born := x.2 } : MapEntry)) i = some none)
  | [], n, i => ⟨fun h => (by cases h), fun _ => rfl⟩
  | w :: ws, n, i => by
    obtain ⟨h1, h2⟩ := findK_words (x := x) (ws := ws) (n := n + 1) (i := i + 1)
    simp only [List.zipIdx_cons, List.map_cons, findK, sameK, str_beq]
    by_cases e : x = w
    · subst e
      simp only [decide_true]
      exact ⟨fun _ => ⟨i, rfl⟩, fun h => absurd (List.mem_cons_self ..) h⟩
    · simp only [decide_eq_false e]
      refine ⟨fun h => h1 ?_, fun h => h2 fun h' => h (List.mem_cons_of_mem _ h')⟩
      rcases List.mem_cons.1 h with g | g
      · exact absurd g e
      · exact g
theorem dec_lo {r : List UInt8} {j : Nat} (h : j < r.length) (hb : r[j].toNat < 128) : Utf8.decode (str r) j = (r[j].toNat, 1) := decode_ascii (str r) j h hb
theorem dec_hi {r : List UInt8} {j : Nat} (h : j < r.length) (hb : 128 ≤ r[j].toNat) : 127 < (Utf8.decode (str r) j).1 := by
  have e : ((str r).get! (j + 0)) = r[j] := by
    have h' : j < (str r).size := h
    show (str r).get! j = _
    simp [ByteArray.get!, getElem!_pos, h]
  unfold Utf8.decode
  simp only [e]
  rw [if_neg (by omega)]
  (repeat' split) <;> simp only [Utf8.runeError, Bool.and_eq_true, decide_eq_true_eq, ge_iff_le] at * <;> omega
theorem name_wp {A K : CH} {p : Nat} {src : List UInt8} {s : RS} {vo vt : Value} {m : Nat} (h : RdAt A K p src s vo vt m) (hp : s.pos < src.length) (hb : s.out.length + s.opn.length < 1000000) :
    WpF (tblG Try.prog LG GG) 34 [.pointer (some ⟨p, 0, none⟩)] K fun v K' => ∃ vt', RdAt A K' p src (putS (atS s (nW isAlN (src.drop s.pos))) (if (src.drop s.pos).take (nW isAlN (src.drop s.pos)) ∈ wordsL then 8 else 4) s.line ((src.drop s.pos).take (nW isAlN (src.drop s.pos)))) vo vt' m := by
  have hsl := h.sl
  have hob := h.ob
  have hpl := h.pl
  have hpa := h.pa
  obtain ⟨N, hN⟩ : ∃ N, nW isAlN (src.drop s.pos) = N := ⟨_, rfl⟩
  have hle := nW_le (p := isAlN) (l := src.drop s.pos)
  simp only [List.length_drop] at hle
  rw [hN] at hle ⊢
  refine wpF_rG (by rfl) (by kernel_rfl) ?_; (conv in (rF _ _).body => reduce); (conv in (rF _ _).res => reduce)
  have htk : (src.drop s.pos).take (src.length - s.pos) = src.drop s.pos := List.take_of_length_le (by simp)
  repeat' (first | (simp (disch := first | omega | (decide +kernel) | (repeat first | assumption | exact HExt.refl _ | refine HExt.set ?_ (by first | omega | (simp only [new_nx, set_nx]; omega)) _ | refine HExt.new ?_ _)) only [↓RD, RU, accW_t, accW_f, isW, ↓putF_get, ↓putF_none, ↓evF_t, ↓evF_c, ↓evF_f, new_nx, set_nx, new_get, set_get, getD_zero, getD_succ, u_not, pop, lop, aop, wop, resL, resV, tupleV, akV, isVal, isCell, Value.cells, ρ0, ρ1, ρ2, ρ3, ρ4, ↓reduceIte, Nat.reduceEqDiff, Nat.reduceAdd, Int.reduceOfNat, Int.reduceNegSucc, reduceCtorEq, ρ5, ρ6, ρ7, ρ8, srcR_c, src_n, src_v, src_s, bnd, lenV, capV, ρ9, ρ10, ρ11, ρ12, ρ13, ρ14, ρ15, ρ16, ρ17, ρ18, ρ19, ρ20, ρ21, ρ22, ρ23, ρ24, Kd.isRo, ρ25, ρ26, bldV, Nat.reduceLeDiff, Int.reduceMul, Int.reduceAdd, Int.reduceSub, Int.reduceToNat, maxLen_eq, zeros_one, appS_some, appV_n, appV_v, appH_t, appH_f, Kd.isEx, ρ27, partV, CH.set_set, lkV, lkR, isKey, mupV, nxtV, ρ28, ρ29, hob, str_size, str_ext, htk]) | (with_reducible first | refine condK_dec (fun _ => ?_) fun _ => ?_ | refine grd_dec (fun _ => ?_) fun _ => ?_ | refine egrd_dec (fun _ => ?_) fun _ => ?_))
  have hxi : HExt K (K.new (.siter (str (src.drop s.pos)) 0)) := by (repeat (first | assumption | exact HExt.refl _ | (refine HExt.set ?_ (by first | omega | (simp only [new_nx, set_nx]; omega)) _) | (refine HExt.new ?_ _)))
  refine loop_w (fun n fr K1 => ∃ j, n = N - j ∧ j + nW isAlN (src.drop (s.pos + j)) = N ∧ RdAt A K1 p src (atS s j) vo vt m ∧ K1.ob K.nx = .siter (str (src.drop s.pos)) j ∧ K.nx < K1.nx) (n := N) ⟨0, rfl, by simpa using hN, h.mv hxi, by repeat' (first | (simp (disch := first | omega | (decide +kernel) | (repeat first | assumption | exact HExt.refl _ | refine HExt.set ?_ (by first | omega | (simp only [new_nx, set_nx]; omega)) _ | refine HExt.new ?_ _)) only [↓RD, RU, accW_t, accW_f, isW, ↓putF_get, ↓putF_none, ↓evF_t, ↓evF_c, ↓evF_f, new_nx, set_nx, new_get, set_get, getD_zero, getD_succ, u_not, pop, lop, aop, wop, resL, resV, tupleV, akV, isVal, isCell, Value.cells, ρ0, ρ1, ρ2, ρ3, ρ4, ↓reduceIte, Nat.reduceEqDiff, Nat.reduceAdd, Int.reduceOfNat, Int.reduceNegSucc, reduceCtorEq, ρ5, ρ6, ρ7, ρ8, srcR_c, src_n, src_v, src_s, bnd, lenV, capV, ρ9, ρ10, ρ11, ρ12, ρ13, ρ14, ρ15, ρ16, ρ17, ρ18, ρ19, ρ20, ρ21, ρ22, ρ23, ρ24, Kd.isRo, ρ25, ρ26, bldV, Nat.reduceLeDiff, Int.reduceMul, Int.reduceAdd, Int.reduceSub, Int.reduceToNat, maxLen_eq, zeros_one, appS_some, appV_n, appV_v, appH_t, appH_f, Kd.isEx, ρ27, partV, CH.set_set, lkV, lkR, isKey, mupV, nxtV, ρ28, ρ29]) | (with_reducible first | refine condK_dec (fun _ => ?_) fun _ => ?_ | refine grd_dec (fun _ => ?_) fun _ => ?_ | refine egrd_dec (fun _ => ?_) fun _ => ?_)), Nat.lt_succ_self _⟩ ?_
  rintro n fr K1 ⟨j, rfl, hj, h1, hit, hil⟩ hag
  have hob1 := h1.ob
  have hpl1 := h1.pl
  have hpd : (atS s j).pos = s.pos + j := rfl
  have hnx := h.E.nx
  have hdl : (src.drop s.pos).length = src.length - s.pos := by simp
  by_cases hlt : s.pos + j < src.length
  · have hj2 : j < (src.drop s.pos).length := by omega
    have hget : (src.drop s.pos)[j] = src[s.pos + j] := by rw [List.getElem_drop]
    have hh := hd_drop hlt
    by_cases hal : isAlN (src[s.pos + j].toNat) = true
    · have hlow : src[s.pos + j].toNat < 128 := by
        have := hal
        simp only [isAlN, isLetN, isDigN, Bool.or_eq_true, decide_eq_true_eq] at this
        omega
      have hdec := dec_lo hj2 (by rw [hget]; exact hlow)
      rw [hget] at hdec
      have hyes := nW_yes hlt (by rw [hh]; exact hal)
      cases hL : isLetN (src[s.pos + j].toNat) with
      | true =>
        repeat' (first | (simp (disch := first | omega | (decide +kernel) | (repeat first | assumption | exact HExt.refl _ | refine HExt.set ?_ (by first | omega | (simp only [new_nx, set_nx]; omega)) _ | refine HExt.new ?_ _)) only [↓RD, RU, accW_t, accW_f, isW, ↓putF_get, ↓putF_none, ↓evF_t, ↓evF_c, ↓evF_f, new_nx, set_nx, new_get, set_get, getD_zero, getD_succ, u_not, pop, lop, aop, wop, resL, resV, tupleV, akV, isVal, isCell, Value.cells, ρ0, ρ1, ρ2, ρ3, ρ4, ↓reduceIte, Nat.reduceEqDiff, Nat.reduceAdd, Int.reduceOfNat, Int.reduceNegSucc, reduceCtorEq, ρ5, ρ6, ρ7, ρ8, srcR_c, src_n, src_v, src_s, bnd, lenV, capV, ρ9, ρ10, ρ11, ρ12, ρ13, ρ14, ρ15, ρ16, ρ17, ρ18, ρ19, ρ20, ρ21, ρ22, ρ23, ρ24, Kd.isRo, ρ25, ρ26, bldV, Nat.reduceLeDiff, Int.reduceMul, Int.reduceAdd, Int.reduceSub, Int.reduceToNat, maxLen_eq, zeros_one, appS_some, appV_n, appV_v, appH_t, appH_f, Kd.isEx, ρ27, partV, CH.set_set, lkV, lkR, isKey, mupV, nxtV, ρ28, ρ29, hag, hit, str_size, hdl, hdec, letter_iff, hL, hob1, hpd, n1]) | (with_reducible first | refine condK_dec (fun _ => ?_) fun _ => ?_ | refine grd_dec (fun _ => ?_) fun _ => ?_ | refine egrd_dec (fun _ => ?_) fun _ => ?_))
        all_goals exact ⟨_, by omega, j + 1, rfl, by simp only [← Nat.add_assoc]; omega, (h1.iter hit (by omega)).set (s' := atS s (j + 1)) rfl rfl (atS_bd h.bd (by omega)), rfl, hil⟩
      | false =>
        have hD : isDigN (src[s.pos + j].toNat) = true := by
          unfold isAlN at hal
          rw [hL] at hal; simpa using hal
        repeat' (first | (simp (disch := first | omega | (decide +kernel) | (repeat first | assumption | exact HExt.refl _ | refine HExt.set ?_ (by first | omega | (simp only [new_nx, set_nx]; omega)) _ | refine HExt.new ?_ _)) only [↓RD, RU, accW_t, accW_f, isW, ↓putF_get, ↓putF_none, ↓evF_t, ↓evF_c, ↓evF_f, new_nx, set_nx, new_get, set_get, getD_zero, getD_succ, u_not, pop, lop, aop, wop, resL, resV, tupleV, akV, isVal, isCell, Value.cells, ρ0, ρ1, ρ2, ρ3, ρ4, ↓reduceIte, Nat.reduceEqDiff, Nat.reduceAdd, Int.reduceOfNat, Int.reduceNegSucc, reduceCtorEq, ρ5, ρ6, ρ7, ρ8, srcR_c, src_n, src_v, src_s, bnd, lenV, capV, ρ9, ρ10, ρ11, ρ12, ρ13, ρ14, ρ15, ρ16, ρ17, ρ18, ρ19, ρ20, ρ21, ρ22, ρ23, ρ24, Kd.isRo, ρ25, ρ26, bldV, Nat.reduceLeDiff, Int.reduceMul, Int.reduceAdd, Int.reduceSub, Int.reduceToNat, maxLen_eq, zeros_one, appS_some, appV_n, appV_v, appH_t, appH_f, Kd.isEx, ρ27, partV, CH.set_set, lkV, lkR, isKey, mupV, nxtV, ρ28, ρ29, hag, hit, str_size, hdl, hdec, letter_iff, digit_iff, hL, hD, hob1, hpd, n1]) | (with_reducible first | refine condK_dec (fun _ => ?_) fun _ => ?_ | refine grd_dec (fun _ => ?_) fun _ => ?_ | refine egrd_dec (fun _ => ?_) fun _ => ?_))
        all_goals exact ⟨_, by omega, j + 1, rfl, by simp only [← Nat.add_assoc]; omega, (h1.iter hit (by omega)).set (s' := atS s (j + 1)) rfl rfl (atS_bd h.bd (by omega)), rfl, hil⟩
    · have hno := nW_no (p := isAlN) (l := src.drop (s.pos + j)) (.inr (by rw [hh]; simpa using hal))
      have e : j = N := by omega
      subst e
      have hmap := h1.mp
      have hml := h1.ml
      have hmn : m ≠ K.nx := fun e => by rw [e, hit] at hmap; cases hmap
      have hal' : isAlN (src[s.pos + j].toNat) = false := by simpa using hal
      simp only [isAlN, Bool.or_eq_false_iff] at hal'
      obtain ⟨hL, hD⟩ := hal'
      by_cases hlow : src[s.pos + j].toNat < 128
      · have hdec := dec_lo hj2 (by rw [hget]; exact hlow)
        rw [hget] at hdec
        by_cases hw : (src.drop s.pos).take j ∈ wordsL
        · obtain ⟨q, hq⟩ := (findK_words (x := (src.drop s.pos).take j) (ws := wordsL) (n := 0) (i := 0)).1 hw
          have hq : findK 1 (.string (str ((src.drop s.pos).take j))) wordsM.toList 0 = some (some (q, .int .i64 1)) := hq
          rw [if_pos hw]
          repeat' (first | (simp (disch := first | omega | (decide +kernel) | (repeat first | assumption | exact HExt.refl _ | refine HExt.set ?_ (by first | omega | (simp only [new_nx, set_nx]; omega)) _ | refine HExt.new ?_ _)) only [↓RD, RU, accW_t, accW_f, isW, ↓putF_get, ↓putF_none, ↓evF_t, ↓evF_c, ↓evF_f, new_nx, set_nx, new_get, set_get, getD_zero, getD_succ, u_not, pop, lop, aop, wop, resL, resV, tupleV, akV, isVal, isCell, Value.cells, ρ0, ρ1, ρ2, ρ3, ρ4, ↓reduceIte, Nat.reduceEqDiff, Nat.reduceAdd, Int.reduceOfNat, Int.reduceNegSucc, reduceCtorEq, ρ5, ρ6, ρ7, ρ8, srcR_c, src_n, src_v, src_s, bnd, lenV, capV, ρ9, ρ10, ρ11, ρ12, ρ13, ρ14, ρ15, ρ16, ρ17, ρ18, ρ19, ρ20, ρ21, ρ22, ρ23, ρ24, Kd.isRo, ρ25, ρ26, bldV, Nat.reduceLeDiff, Int.reduceMul, Int.reduceAdd, Int.reduceSub, Int.reduceToNat, maxLen_eq, zeros_one, appS_some, appV_n, appV_v, appH_t, appH_f, Kd.isEx, ρ27, partV, CH.set_set, lkV, lkR, isKey, mupV, nxtV, ρ28, ρ29, hag, hit, str_size, hdl, hdec, letter_iff, digit_iff, hL, hD, hob1, hpd, str_ext, Nat.add_sub_cancel_left, hq, hmap]) | (with_reducible first | refine condK_dec (fun _ => ?_) fun _ => ?_ | refine grd_dec (fun _ => ?_) fun _ => ?_ | refine egrd_dec (fun _ => ?_) fun _ => ?_))
          refine (put_wp (s := atS s j) (h1.iter hit (by omega)) 8 s.line ((src.drop s.pos).take j) hb).mono fun v2 K2 ⟨vt2, h2⟩ => ?_
          repeat' (first | (simp (disch := first | omega | (decide +kernel) | (repeat first | assumption | exact HExt.refl _ | refine HExt.set ?_ (by first | omega | (simp only [new_nx, set_nx]; omega)) _ | refine HExt.new ?_ _)) only [↓RD, RU, accW_t, accW_f, isW, ↓putF_get, ↓putF_none, ↓evF_t, ↓evF_c, ↓evF_f, new_nx, set_nx, new_get, set_get, getD_zero, getD_succ, u_not, pop, lop, aop, wop, resL, resV, tupleV, akV, isVal, isCell, Value.cells, ρ0, ρ1, ρ2, ρ3, ρ4, ↓reduceIte, Nat.reduceEqDiff, Nat.reduceAdd, Int.reduceOfNat, Int.reduceNegSucc, reduceCtorEq, ρ5, ρ6, ρ7, ρ8, srcR_c, src_n, src_v, src_s, bnd, lenV, capV, ρ9, ρ10, ρ11, ρ12, ρ13, ρ14, ρ15, ρ16, ρ17, ρ18, ρ19, ρ20, ρ21, ρ22, ρ23, ρ24, Kd.isRo, ρ25, ρ26, bldV, Nat.reduceLeDiff, Int.reduceMul, Int.reduceAdd, Int.reduceSub, Int.reduceToNat, maxLen_eq, zeros_one, appS_some, appV_n, appV_v, appH_t, appH_f, Kd.isEx, ρ27, partV, CH.set_set, lkV, lkR, isKey, mupV, nxtV, ρ28, ρ29]) | (with_reducible first | refine condK_dec (fun _ => ?_) fun _ => ?_ | refine grd_dec (fun _ => ?_) fun _ => ?_ | refine egrd_dec (fun _ => ?_) fun _ => ?_))
          all_goals exact ⟨vt2, h2⟩
        · have hq : findK 1 (.string (str ((src.drop s.pos).take j))) wordsM.toList 0 = some none := (findK_words (x := (src.drop s.pos).take j) (ws := wordsL) (n := 0) (i := 0)).2 hw
          rw [if_neg hw]
          repeat' (first | (simp (disch := first | omega | (decide +kernel) | (repeat first | assumption | exact HExt.refl _ | refine HExt.set ?_ (by first | omega | (simp only [new_nx, set_nx]; omega)) _ | refine HExt.new ?_ _)) only [↓RD, RU, accW_t, accW_f, isW, ↓putF_get, ↓putF_none, ↓evF_t, ↓evF_c, ↓evF_f, new_nx, set_nx, new_get, set_get, getD_zero, getD_succ, u_not, pop, lop, aop, wop, resL, resV, tupleV, akV, isVal, isCell, Value.cells, ρ0, ρ1, ρ2, ρ3, ρ4, ↓reduceIte, Nat.reduceEqDiff, Nat.reduceAdd, Int.reduceOfNat, Int.reduceNegSucc, reduceCtorEq, ρ5, ρ6, ρ7, ρ8, srcR_c, src_n, src_v, src_s, bnd, lenV, capV, ρ9, ρ10, ρ11, ρ12, ρ13, ρ14, ρ15, ρ16, ρ17, ρ18, ρ19, ρ20, ρ21, ρ22, ρ23, ρ24, Kd.isRo, ρ25, ρ26, bldV, Nat.reduceLeDiff, Int.reduceMul, Int.reduceAdd, Int.reduceSub, Int.reduceToNat, maxLen_eq, zeros_one, appS_some, appV_n, appV_v, appH_t, appH_f, Kd.isEx, ρ27, partV, CH.set_set, lkV, lkR, isKey, mupV, nxtV, ρ28, ρ29, hag, hit, str_size, hdl, hdec, letter_iff, digit_iff, hL, hD, hob1, hpd, str_ext, Nat.add_sub_cancel_left, hq, hmap]) | (with_reducible first | refine condK_dec (fun _ => ?_) fun _ => ?_ | refine grd_dec (fun _ => ?_) fun _ => ?_ | refine egrd_dec (fun _ => ?_) fun _ => ?_))
          refine (put_wp (s := atS s j) (h1.iter hit (by omega)) 4 s.line ((src.drop s.pos).take j) hb).mono fun v2 K2 ⟨vt2, h2⟩ => ?_
          repeat' (first | (simp (disch := first | omega | (decide +kernel) | (repeat first | assumption | exact HExt.refl _ | refine HExt.set ?_ (by first | omega | (simp only [new_nx, set_nx]; omega)) _ | refine HExt.new ?_ _)) only [↓RD, RU, accW_t, accW_f, isW, ↓putF_get, ↓putF_none, ↓evF_t, ↓evF_c, ↓evF_f, new_nx, set_nx, new_get, set_get, getD_zero, getD_succ, u_not, pop, lop, aop, wop, resL, resV, tupleV, akV, isVal, isCell, Value.cells, ρ0, ρ1, ρ2, ρ3, ρ4, ↓reduceIte, Nat.reduceEqDiff, Nat.reduceAdd, Int.reduceOfNat, Int.reduceNegSucc, reduceCtorEq, ρ5, ρ6, ρ7, ρ8, srcR_c, src_n, src_v, src_s, bnd, lenV, capV, ρ9, ρ10, ρ11, ρ12, ρ13, ρ14, ρ15, ρ16, ρ17, ρ18, ρ19, ρ20, ρ21, ρ22, ρ23, ρ24, Kd.isRo, ρ25, ρ26, bldV, Nat.reduceLeDiff, Int.reduceMul, Int.reduceAdd, Int.reduceSub, Int.reduceToNat, maxLen_eq, zeros_one, appS_some, appV_n, appV_v, appH_t, appH_f, Kd.isEx, ρ27, partV, CH.set_set, lkV, lkR, isKey, mupV, nxtV, ρ28, ρ29]) | (with_reducible first | refine condK_dec (fun _ => ?_) fun _ => ?_ | refine grd_dec (fun _ => ?_) fun _ => ?_ | refine egrd_dec (fun _ => ?_) fun _ => ?_))
          all_goals exact ⟨vt2, h2⟩
      · have hdec := dec_hi hj2 (by rw [hget]; omega)
        by_cases hw : (src.drop s.pos).take j ∈ wordsL
        · obtain ⟨q, hq⟩ := (findK_words (x := (src.drop s.pos).take j) (ws := wordsL) (n := 0) (i := 0)).1 hw
          have hq : findK 1 (.string (str ((src.drop s.pos).take j))) wordsM.toList 0 = some (some (q, .int .i64 1)) := hq
          rw [if_pos hw]
          repeat' (first | (simp (disch := first | omega | (decide +kernel) | (repeat first | assumption | exact HExt.refl _ | refine HExt.set ?_ (by first | omega | (simp only [new_nx, set_nx]; omega)) _ | refine HExt.new ?_ _)) only [↓RD, RU, accW_t, accW_f, isW, ↓putF_get, ↓putF_none, ↓evF_t, ↓evF_c, ↓evF_f, new_nx, set_nx, new_get, set_get, getD_zero, getD_succ, u_not, pop, lop, aop, wop, resL, resV, tupleV, akV, isVal, isCell, Value.cells, ρ0, ρ1, ρ2, ρ3, ρ4, ↓reduceIte, Nat.reduceEqDiff, Nat.reduceAdd, Int.reduceOfNat, Int.reduceNegSucc, reduceCtorEq, ρ5, ρ6, ρ7, ρ8, srcR_c, src_n, src_v, src_s, bnd, lenV, capV, ρ9, ρ10, ρ11, ρ12, ρ13, ρ14, ρ15, ρ16, ρ17, ρ18, ρ19, ρ20, ρ21, ρ22, ρ23, ρ24, Kd.isRo, ρ25, ρ26, bldV, Nat.reduceLeDiff, Int.reduceMul, Int.reduceAdd, Int.reduceSub, Int.reduceToNat, maxLen_eq, zeros_one, appS_some, appV_n, appV_v, appH_t, appH_f, Kd.isEx, ρ27, partV, CH.set_set, lkV, lkR, isKey, mupV, nxtV, ρ28, ρ29, hag, hit, str_size, hdl, hob1, hpd, str_ext, Nat.add_sub_cancel_left, hq, hmap]) | (with_reducible first | refine condK_dec (fun _ => ?_) fun _ => ?_ | refine grd_dec (fun _ => ?_) fun _ => ?_ | refine egrd_dec (fun _ => ?_) fun _ => ?_))
          refine (put_wp (s := atS s j) (h1.iter hit (by omega)) 8 s.line ((src.drop s.pos).take j) hb).mono fun v2 K2 ⟨vt2, h2⟩ => ?_
          repeat' (first | (simp (disch := first | omega | (decide +kernel) | (repeat first | assumption | exact HExt.refl _ | refine HExt.set ?_ (by first | omega | (simp only [new_nx, set_nx]; omega)) _ | refine HExt.new ?_ _)) only [↓RD, RU, accW_t, accW_f, isW, ↓putF_get, ↓putF_none, ↓evF_t, ↓evF_c, ↓evF_f, new_nx, set_nx, new_get, set_get, getD_zero, getD_succ, u_not, pop, lop, aop, wop, resL, resV, tupleV, akV, isVal, isCell, Value.cells, ρ0, ρ1, ρ2, ρ3, ρ4, ↓reduceIte, Nat.reduceEqDiff, Nat.reduceAdd, Int.reduceOfNat, Int.reduceNegSucc, reduceCtorEq, ρ5, ρ6, ρ7, ρ8, srcR_c, src_n, src_v, src_s, bnd, lenV, capV, ρ9, ρ10, ρ11, ρ12, ρ13, ρ14, ρ15, ρ16, ρ17, ρ18, ρ19, ρ20, ρ21, ρ22, ρ23, ρ24, Kd.isRo, ρ25, ρ26, bldV, Nat.reduceLeDiff, Int.reduceMul, Int.reduceAdd, Int.reduceSub, Int.reduceToNat, maxLen_eq, zeros_one, appS_some, appV_n, appV_v, appH_t, appH_f, Kd.isEx, ρ27, partV, CH.set_set, lkV, lkR, isKey, mupV, nxtV, ρ28, ρ29]) | (with_reducible first | refine condK_dec (fun _ => ?_) fun _ => ?_ | refine grd_dec (fun _ => ?_) fun _ => ?_ | refine egrd_dec (fun _ => ?_) fun _ => ?_))
          all_goals exact ⟨vt2, h2⟩
        · have hq : findK 1 (.string (str ((src.drop s.pos).take j))) wordsM.toList 0 = some none := (findK_words (x := (src.drop s.pos).take j) (ws := wordsL) (n := 0) (i := 0)).2 hw
          rw [if_neg hw]
          repeat' (first | (simp (disch := first | omega | (decide +kernel) | (repeat first | assumption | exact HExt.refl _ | refine HExt.set ?_ (by first | omega | (simp only [new_nx, set_nx]; omega)) _ | refine HExt.new ?_ _)) only [↓RD, RU, accW_t, accW_f, isW, ↓putF_get, ↓putF_none, ↓evF_t, ↓evF_c, ↓evF_f, new_nx, set_nx, new_get, set_get, getD_zero, getD_succ, u_not, pop, lop, aop, wop, resL, resV, tupleV, akV, isVal, isCell, Value.cells, ρ0, ρ1, ρ2, ρ3, ρ4, ↓reduceIte, Nat.reduceEqDiff, Nat.reduceAdd, Int.reduceOfNat, Int.reduceNegSucc, reduceCtorEq, ρ5, ρ6, ρ7, ρ8, srcR_c, src_n, src_v, src_s, bnd, lenV, capV, ρ9, ρ10, ρ11, ρ12, ρ13, ρ14, ρ15, ρ16, ρ17, ρ18, ρ19, ρ20, ρ21, ρ22, ρ23, ρ24, Kd.isRo, ρ25, ρ26, bldV, Nat.reduceLeDiff, Int.reduceMul, Int.reduceAdd, Int.reduceSub, Int.reduceToNat, maxLen_eq, zeros_one, appS_some, appV_n, appV_v, appH_t, appH_f, Kd.isEx, ρ27, partV, CH.set_set, lkV, lkR, isKey, mupV, nxtV, ρ28, ρ29, hag, hit, str_size, hdl, hob1, hpd, str_ext, Nat.add_sub_cancel_left, hq, hmap]) | (with_reducible first | refine condK_dec (fun _ => ?_) fun _ => ?_ | refine grd_dec (fun _ => ?_) fun _ => ?_ | refine egrd_dec (fun _ => ?_) fun _ => ?_))
          refine (put_wp (s := atS s j) (h1.iter hit (by omega)) 4 s.line ((src.drop s.pos).take j) hb).mono fun v2 K2 ⟨vt2, h2⟩ => ?_
          repeat' (first | (simp (disch := first | omega | (decide +kernel) | (repeat first | assumption | exact HExt.refl _ | refine HExt.set ?_ (by first | omega | (simp only [new_nx, set_nx]; omega)) _ | refine HExt.new ?_ _)) only [↓RD, RU, accW_t, accW_f, isW, ↓putF_get, ↓putF_none, ↓evF_t, ↓evF_c, ↓evF_f, new_nx, set_nx, new_get, set_get, getD_zero, getD_succ, u_not, pop, lop, aop, wop, resL, resV, tupleV, akV, isVal, isCell, Value.cells, ρ0, ρ1, ρ2, ρ3, ρ4, ↓reduceIte, Nat.reduceEqDiff, Nat.reduceAdd, Int.reduceOfNat, Int.reduceNegSucc, reduceCtorEq, ρ5, ρ6, ρ7, ρ8, srcR_c, src_n, src_v, src_s, bnd, lenV, capV, ρ9, ρ10, ρ11, ρ12, ρ13, ρ14, ρ15, ρ16, ρ17, ρ18, ρ19, ρ20, ρ21, ρ22, ρ23, ρ24, Kd.isRo, ρ25, ρ26, bldV, Nat.reduceLeDiff, Int.reduceMul, Int.reduceAdd, Int.reduceSub, Int.reduceToNat, maxLen_eq, zeros_one, appS_some, appV_n, appV_v, appH_t, appH_f, Kd.isEx, ρ27, partV, CH.set_set, lkV, lkR, isKey, mupV, nxtV, ρ28, ρ29]) | (with_reducible first | refine condK_dec (fun _ => ?_) fun _ => ?_ | refine grd_dec (fun _ => ?_) fun _ => ?_ | refine egrd_dec (fun _ => ?_) fun _ => ?_))
          all_goals exact ⟨vt2, h2⟩
  · have hno := nW_no (p := isAlN) (l := src.drop (s.pos + j)) (.inl (List.drop_eq_nil_of_le (by omega)))
    have e : j = N := by omega
    subst e
    have hmap := h1.mp
    have hml := h1.ml
    have hmn : m ≠ K.nx := fun e => by rw [e, hit] at hmap; cases hmap
    by_cases hw : (src.drop s.pos).take j ∈ wordsL
    · obtain ⟨q, hq⟩ := (findK_words (x := (src.drop s.pos).take j) (ws := wordsL) (n := 0) (i := 0)).1 hw
      have hq : findK 1 (.string (str ((src.drop s.pos).take j))) wordsM.toList 0 = some (some (q, .int .i64 1)) := hq
      rw [if_pos hw]
      repeat' (first | (simp (disch := first | omega | (decide +kernel) | (repeat first | assumption | exact HExt.refl _ | refine HExt.set ?_ (by first | omega | (simp only [new_nx, set_nx]; omega)) _ | refine HExt.new ?_ _)) only [↓RD, RU, accW_t, accW_f, isW, ↓putF_get, ↓putF_none, ↓evF_t, ↓evF_c, ↓evF_f, new_nx, set_nx, new_get, set_get, getD_zero, getD_succ, u_not, pop, lop, aop, wop, resL, resV, tupleV, akV, isVal, isCell, Value.cells, ρ0, ρ1, ρ2, ρ3, ρ4, ↓reduceIte, Nat.reduceEqDiff, Nat.reduceAdd, Int.reduceOfNat, Int.reduceNegSucc, reduceCtorEq, ρ5, ρ6, ρ7, ρ8, srcR_c, src_n, src_v, src_s, bnd, lenV, capV, ρ9, ρ10, ρ11, ρ12, ρ13, ρ14, ρ15, ρ16, ρ17, ρ18, ρ19, ρ20, ρ21, ρ22, ρ23, ρ24, Kd.isRo, ρ25, ρ26, bldV, Nat.reduceLeDiff, Int.reduceMul, Int.reduceAdd, Int.reduceSub, Int.reduceToNat, maxLen_eq, zeros_one, appS_some, appV_n, appV_v, appH_t, appH_f, Kd.isEx, ρ27, partV, CH.set_set, lkV, lkR, isKey, mupV, nxtV, ρ28, ρ29, hag, hit, str_size, hdl, hob1, hpd, str_ext, Nat.add_sub_cancel_left, hq, hmap]) | (with_reducible first | refine condK_dec (fun _ => ?_) fun _ => ?_ | refine grd_dec (fun _ => ?_) fun _ => ?_ | refine egrd_dec (fun _ => ?_) fun _ => ?_))
      refine (put_wp (s := atS s j) (h1) 8 s.line ((src.drop s.pos).take j) hb).mono fun v2 K2 ⟨vt2, h2⟩ => ?_
      repeat' (first | (simp (disch := first | omega | (decide +kernel) | (repeat first | assumption | exact HExt.refl _ | refine HExt.set ?_ (by first | omega | (simp only [new_nx, set_nx]; omega)) _ | refine HExt.new ?_ _)) only [↓RD, RU, accW_t, accW_f, isW, ↓putF_get, ↓putF_none, ↓evF_t, ↓evF_c, ↓evF_f, new_nx, set_nx, new_get, set_get, getD_zero, getD_succ, u_not, pop, lop, aop, wop, resL, resV, tupleV, akV, isVal, isCell, Value.cells, ρ0, ρ1, ρ2, ρ3, ρ4, ↓reduceIte, Nat.reduceEqDiff, Nat.reduceAdd, Int.reduceOfNat, Int.reduceNegSucc, reduceCtorEq, ρ5, ρ6, ρ7, ρ8, srcR_c, src_n, src_v, src_s, bnd, lenV, capV, ρ9, ρ10, ρ11, ρ12, ρ13, ρ14, ρ15, ρ16, ρ17, ρ18, ρ19, ρ20, ρ21, ρ22, ρ23, ρ24, Kd.isRo, ρ25, ρ26, bldV, Nat.reduceLeDiff, Int.reduceMul, Int.reduceAdd, Int.reduceSub, Int.reduceToNat, maxLen_eq, zeros_one, appS_some, appV_n, appV_v, appH_t, appH_f, Kd.isEx, ρ27, partV, CH.set_set, lkV, lkR, isKey, mupV, nxtV, ρ28, ρ29]) | (with_reducible first | refine condK_dec (fun _ => ?_) fun _ => ?_ | refine grd_dec (fun _ => ?_) fun _ => ?_ | refine egrd_dec (fun _ => ?_) fun _ => ?_))
      all_goals exact ⟨vt2, h2⟩
    · have hq : findK 1 (.string (str ((src.drop s.pos).take j))) wordsM.toList 0 = some none := (findK_words (x := (src.drop s.pos).take j) (ws := wordsL) (n := 0) (i := 0)).2 hw
      rw [if_neg hw]
      repeat' (first | (simp (disch := first | omega | (decide +kernel) | (repeat first | assumption | exact HExt.refl _ | refine HExt.set ?_ (by first | omega | (simp only [new_nx, set_nx]; omega)) _ | refine HExt.new ?_ _)) only [↓RD, RU, accW_t, accW_f, isW, ↓putF_get, ↓putF_none, ↓evF_t, ↓evF_c, ↓evF_f, new_nx, set_nx, new_get, set_get, getD_zero, getD_succ, u_not, pop, lop, aop, wop, resL, resV, tupleV, akV, isVal, isCell, Value.cells, ρ0, ρ1, ρ2, ρ3, ρ4, ↓reduceIte, Nat.reduceEqDiff, Nat.reduceAdd, Int.reduceOfNat, Int.reduceNegSucc, reduceCtorEq, ρ5, ρ6, ρ7, ρ8, srcR_c, src_n, src_v, src_s, bnd, lenV, capV, ρ9, ρ10, ρ11, ρ12, ρ13, ρ14, ρ15, ρ16, ρ17, ρ18, ρ19, ρ20, ρ21, ρ22, ρ23, ρ24, Kd.isRo, ρ25, ρ26, bldV, Nat.reduceLeDiff, Int.reduceMul, Int.reduceAdd, Int.reduceSub, Int.reduceToNat, maxLen_eq, zeros_one, appS_some, appV_n, appV_v, appH_t, appH_f, Kd.isEx, ρ27, partV, CH.set_set, lkV, lkR, isKey, mupV, nxtV, ρ28, ρ29, hag, hit, str_size, hdl, hob1, hpd, str_ext, Nat.add_sub_cancel_left, hq, hmap]) | (with_reducible first | refine condK_dec (fun _ => ?_) fun _ => ?_ | refine grd_dec (fun _ => ?_) fun _ => ?_ | refine egrd_dec (fun _ => ?_) fun _ => ?_))
      refine (put_wp (s := atS s j) (h1) 4 s.line ((src.drop s.pos).take j) hb).mono fun v2 K2 ⟨vt2, h2⟩ => ?_
      repeat' (first | (simp (disch := first | omega | (decide +kernel) | (repeat first | assumption | exact HExt.refl _ | refine HExt.set ?_ (by first | omega | (simp only [new_nx, set_nx]; omega)) _ | refine HExt.new ?_ _)) only [↓RD, RU, accW_t, accW_f, isW, ↓putF_get, ↓putF_none, ↓evF_t, ↓evF_c, ↓evF_f, new_nx, set_nx, new_get, set_get, getD_zero, getD_succ, u_not, pop, lop, aop, wop, resL, resV, tupleV, akV, isVal, isCell, Value.cells, ρ0, ρ1, ρ2, ρ3, ρ4, ↓reduceIte, Nat.reduceEqDiff, Nat.reduceAdd, Int.reduceOfNat, Int.reduceNegSucc, reduceCtorEq, ρ5, ρ6, ρ7, ρ8, srcR_c, src_n, src_v, src_s, bnd, lenV, capV, ρ9, ρ10, ρ11, ρ12, ρ13, ρ14, ρ15, ρ16, ρ17, ρ18, ρ19, ρ20, ρ21, ρ22, ρ23, ρ24, Kd.isRo, ρ25, ρ26, bldV, Nat.reduceLeDiff, Int.reduceMul, Int.reduceAdd, Int.reduceSub, Int.reduceToNat, maxLen_eq, zeros_one, appS_some, appV_n, appV_v, appH_t, appH_f, Kd.isEx, ρ27, partV, CH.set_set, lkV, lkR, isKey, mupV, nxtV, ρ28, ρ29]) | (with_reducible first | refine condK_dec (fun _ => ?_) fun _ => ?_ | refine grd_dec (fun _ => ?_) fun _ => ?_ | refine egrd_dec (fun _ => ?_) fun _ => ?_))
      all_goals exact ⟨vt2, h2⟩
end Can
end Go.Proofs.Ytmglmoehlegojaa
