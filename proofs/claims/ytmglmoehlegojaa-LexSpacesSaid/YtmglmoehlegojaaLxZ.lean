/- Lex: one token; the indentation. -/
import Derived.Test.YtmglmoehlegojaaLxY
import Derived.Test.YtmglmoehlegojaaLxN
namespace Go.Proofs.Ytmglmoehlegojaa
namespace Can
open Go Go.RowKit
set_option linter.unusedSimpArgs false
set_option linter.unusedVariables false
set_option maxRecDepth 4000
def TokOut (A K : CH) (p : Nat) (src : List UInt8) (s : RS) (vo : Value) (m : Nat) (r : Option (Nat × List UInt8 × Nat)) : Prop := match r with
  | some (k, x, n) => ∃ vt', RdAt A K p src (putS { atS s n with dep := depT s.dep k x } k s.line x) vo vt' m
  | none => BadAt A K p src s vo m
theorem fracN_le {l : List UInt8} : fracN l ≤ l.length := by
  unfold fracN
  split
  · rename_i g
    have h1 := dig_lt g.2
    have := digN_le (l := l.drop 1)
    simp only [List.length_drop] at this; omega
  · omega
theorem expN_le {l : List UInt8} : expN l ≤ l.length := by
  unfold expN
  have h1 := digN_le (l := l.drop 1)
  have h2 := digN_le (l := l.drop 2)
  simp only [List.length_drop] at h1 h2
  split
  · split
    · rename_i g; have := dig_lt g; omega
    · split
      · rename_i g; have := dig_lt g.2; omega
      · omega
  · omega
theorem numN_le {l : List UInt8} : numN l ≤ l.length := by
  have h1 := digN_le (l := l)
  have h2 := fracN_le (l := l.drop (digN l))
  have h3 := expN_le (l := l.drop (numA l))
  simp only [List.length_drop] at h2 h3
  have h4 : numA l = digN l + fracN (l.drop (digN l)) := rfl
  unfold numN
  omega
theorem dep_no {d k : Nat} {x : List UInt8} (h : k ≠ 9) : depT d k x = d := by
  unfold depT
  rw [if_neg (fun g => h g.1), if_neg (fun g => h g.1)]
theorem token_wp {A K : CH} {p : Nat} {src : List UInt8} {s : RS} {vo vt : Value} {m : Nat} (h : RdAt A K p src s vo vt m) (hp : s.pos < src.length) (h0 : s.err = 0) (hb : s.out.length + s.opn.length < 1000000) (hdp : s.dep < 100000) :
    WpF (tblG Try.prog LG GG) 28 [.pointer (some ⟨p, 0, none⟩)] K fun v K' => TokOut A K' p src s vo m (tokT (src.drop s.pos)) := by
  have hsl := h.sl
  have hob := h.ob
  have hpl := h.pl
  have hg := get_pos hp
  obtain ⟨c, hc⟩ : ∃ c, src[s.pos] = c := ⟨_, rfl⟩
  have hhd : hd (src.drop s.pos) = c.toNat := by rw [hd_drop hp, hc]
  rw [hc] at hg
  refine wpF_rG (by rfl) (by kernel_rfl) ?_; (conv in (rF _ _).body => reduce); (conv in (rF _ _).res => reduce)
  cases hL : isLetN c.toNat with
  | true =>
    have ht : tokT (src.drop s.pos) = some (if (src.drop s.pos).take (nW isAlN (src.drop s.pos)) ∈ wordsL then 8 else 4, (src.drop s.pos).take (nW isAlN (src.drop s.pos)), nW isAlN (src.drop s.pos)) := by
      unfold tokT; rw [hhd, if_pos hL]
    rw [ht]
    repeat' (first | (simp (disch := first | omega | (decide +kernel) | (repeat first | assumption | exact HExt.refl _ | refine HExt.set ?_ (by first | omega | (simp only [new_nx, set_nx]; omega)) _ | refine HExt.new ?_ _)) only [↓RD, RU, accW_t, accW_f, isW, ↓putF_get, ↓putF_none, ↓evF_t, ↓evF_c, ↓evF_f, new_nx, set_nx, new_get, set_get, getD_zero, getD_succ, u_not, pop, lop, aop, wop, resL, resV, tupleV, akV, isVal, isCell, Value.cells, ρ0, ρ1, ρ2, ρ3, ρ4, ↓reduceIte, Nat.reduceEqDiff, Nat.reduceAdd, Int.reduceOfNat, Int.reduceNegSucc, reduceCtorEq, ρ5, ρ6, ρ7, ρ8, srcR_c, src_n, src_v, src_s, bnd, lenV, capV, ρ9, ρ10, ρ11, ρ12, ρ13, ρ14, ρ15, ρ16, ρ17, ρ18, ρ19, ρ20, ρ21, ρ22, ρ23, ρ24, Kd.isRo, ρ25, ρ26, bldV, Nat.reduceLeDiff, Int.reduceMul, Int.reduceAdd, Int.reduceSub, Int.reduceToNat, maxLen_eq, zeros_one, appS_some, appV_n, appV_v, appH_t, appH_f, Kd.isEx, ρ27, partV, CH.set_set, lkV, lkR, isKey, mupV, nxtV, ρ28, ρ29, hob, str_get, hg, letter_iff, hL]) | (with_reducible first | refine condK_dec (fun _ => ?_) fun _ => ?_ | refine grd_dec (fun _ => ?_) fun _ => ?_ | refine egrd_dec (fun _ => ?_) fun _ => ?_))
    refine (name_wp h hp hb).mono fun v1 K1 ⟨vt1, h1⟩ => ?_
    repeat' (first | (simp (disch := first | omega | (decide +kernel) | (repeat first | assumption | exact HExt.refl _ | refine HExt.set ?_ (by first | omega | (simp only [new_nx, set_nx]; omega)) _ | refine HExt.new ?_ _)) only [↓RD, RU, accW_t, accW_f, isW, ↓putF_get, ↓putF_none, ↓evF_t, ↓evF_c, ↓evF_f, new_nx, set_nx, new_get, set_get, getD_zero, getD_succ, u_not, pop, lop, aop, wop, resL, resV, tupleV, akV, isVal, isCell, Value.cells, ρ0, ρ1, ρ2, ρ3, ρ4, ↓reduceIte, Nat.reduceEqDiff, Nat.reduceAdd, Int.reduceOfNat, Int.reduceNegSucc, reduceCtorEq, ρ5, ρ6, ρ7, ρ8, srcR_c, src_n, src_v, src_s, bnd, lenV, capV, ρ9, ρ10, ρ11, ρ12, ρ13, ρ14, ρ15, ρ16, ρ17, ρ18, ρ19, ρ20, ρ21, ρ22, ρ23, ρ24, Kd.isRo, ρ25, ρ26, bldV, Nat.reduceLeDiff, Int.reduceMul, Int.reduceAdd, Int.reduceSub, Int.reduceToNat, maxLen_eq, zeros_one, appS_some, appV_n, appV_v, appH_t, appH_f, Kd.isEx, ρ27, partV, CH.set_set, lkV, lkR, isKey, mupV, nxtV, ρ28, ρ29]) | (with_reducible first | refine condK_dec (fun _ => ?_) fun _ => ?_ | refine grd_dec (fun _ => ?_) fun _ => ?_ | refine egrd_dec (fun _ => ?_) fun _ => ?_))
    all_goals exact ⟨vt1, by rw [dep_no (by split <;> decide)]; exact h1⟩
  | false =>
    cases hD : isDigN c.toNat with
    | true =>
      repeat' (first | (simp (disch := first | omega | (decide +kernel) | (repeat first | assumption | exact HExt.refl _ | refine HExt.set ?_ (by first | omega | (simp only [new_nx, set_nx]; omega)) _ | refine HExt.new ?_ _)) only [↓RD, RU, accW_t, accW_f, isW, ↓putF_get, ↓putF_none, ↓evF_t, ↓evF_c, ↓evF_f, new_nx, set_nx, new_get, set_get, getD_zero, getD_succ, u_not, pop, lop, aop, wop, resL, resV, tupleV, akV, isVal, isCell, Value.cells, ρ0, ρ1, ρ2, ρ3, ρ4, ↓reduceIte, Nat.reduceEqDiff, Nat.reduceAdd, Int.reduceOfNat, Int.reduceNegSucc, reduceCtorEq, ρ5, ρ6, ρ7, ρ8, srcR_c, src_n, src_v, src_s, bnd, lenV, capV, ρ9, ρ10, ρ11, ρ12, ρ13, ρ14, ρ15, ρ16, ρ17, ρ18, ρ19, ρ20, ρ21, ρ22, ρ23, ρ24, Kd.isRo, ρ25, ρ26, bldV, Nat.reduceLeDiff, Int.reduceMul, Int.reduceAdd, Int.reduceSub, Int.reduceToNat, maxLen_eq, zeros_one, appS_some, appV_n, appV_v, appH_t, appH_f, Kd.isEx, ρ27, partV, CH.set_set, lkV, lkR, isKey, mupV, nxtV, ρ28, ρ29, hob, str_get, hg, letter_iff, hL, digit_iff, hD]) | (with_reducible first | refine condK_dec (fun _ => ?_) fun _ => ?_ | refine grd_dec (fun _ => ?_) fun _ => ?_ | refine egrd_dec (fun _ => ?_) fun _ => ?_))
      refine (number_wp h hp (by rw [hhd]; exact hD) hb).mono fun v1 K1 ⟨vt1, h1⟩ => ?_
      have hk9 : numK (src.drop s.pos) ≠ 9 := by unfold numK; split <;> decide
      cases hbd : numBad (src.drop s.pos) with
      | true =>
        have ht : tokT (src.drop s.pos) = none := by
          unfold tokT; rw [hhd, if_neg (by simp [hL]), if_pos hD, if_pos hbd]
        rw [ht]
        unfold numS at h1
        rw [if_pos hbd, failS_0 (show (atS s _).err = 0 from h0)] at h1
        have hnp : 0 < numN (src.drop s.pos) := by
          have := nW_yes (p := isDigN) hp (by rw [hhd]; exact hD)
          unfold numN numA digN
          omega
        have hnb : s.pos + numN (src.drop s.pos) ≤ src.length + 4 := by
          have := numN_le (l := src.drop s.pos)
          simp at this; omega
        repeat' (first | (simp (disch := first | omega | (decide +kernel) | (repeat first | assumption | exact HExt.refl _ | refine HExt.set ?_ (by first | omega | (simp only [new_nx, set_nx]; omega)) _ | refine HExt.new ?_ _)) only [↓RD, RU, accW_t, accW_f, isW, ↓putF_get, ↓putF_none, ↓evF_t, ↓evF_c, ↓evF_f, new_nx, set_nx, new_get, set_get, getD_zero, getD_succ, u_not, pop, lop, aop, wop, resL, resV, tupleV, akV, isVal, isCell, Value.cells, ρ0, ρ1, ρ2, ρ3, ρ4, ↓reduceIte, Nat.reduceEqDiff, Nat.reduceAdd, Int.reduceOfNat, Int.reduceNegSucc, reduceCtorEq, ρ5, ρ6, ρ7, ρ8, srcR_c, src_n, src_v, src_s, bnd, lenV, capV, ρ9, ρ10, ρ11, ρ12, ρ13, ρ14, ρ15, ρ16, ρ17, ρ18, ρ19, ρ20, ρ21, ρ22, ρ23, ρ24, Kd.isRo, ρ25, ρ26, bldV, Nat.reduceLeDiff, Int.reduceMul, Int.reduceAdd, Int.reduceSub, Int.reduceToNat, maxLen_eq, zeros_one, appS_some, appV_n, appV_v, appH_t, appH_f, Kd.isEx, ρ27, partV, CH.set_set, lkV, lkR, isKey, mupV, nxtV, ρ28, ρ29]) | (with_reducible first | refine condK_dec (fun _ => ?_) fun _ => ?_ | refine grd_dec (fun _ => ?_) fun _ => ?_ | refine egrd_dec (fun _ => ?_) fun _ => ?_))
        all_goals exact ⟨vt1, _, h1, rfl, rfl, rfl, rfl, by simp [putS, atS], by show s.pos < s.pos + numN _; omega, hnb, rfl⟩
      | false =>
        have ht : tokT (src.drop s.pos) = some (numK (src.drop s.pos), (src.drop s.pos).take (numN (src.drop s.pos)), numN (src.drop s.pos)) := by
          unfold tokT; rw [hhd, if_neg (by simp [hL]), if_pos hD, if_neg (by simp [hbd])]
        rw [ht]
        unfold numS at h1
        rw [if_neg (by simp [hbd])] at h1
        repeat' (first | (simp (disch := first | omega | (decide +kernel) | (repeat first | assumption | exact HExt.refl _ | refine HExt.set ?_ (by first | omega | (simp only [new_nx, set_nx]; omega)) _ | refine HExt.new ?_ _)) only [↓RD, RU, accW_t, accW_f, isW, ↓putF_get, ↓putF_none, ↓evF_t, ↓evF_c, ↓evF_f, new_nx, set_nx, new_get, set_get, getD_zero, getD_succ, u_not, pop, lop, aop, wop, resL, resV, tupleV, akV, isVal, isCell, Value.cells, ρ0, ρ1, ρ2, ρ3, ρ4, ↓reduceIte, Nat.reduceEqDiff, Nat.reduceAdd, Int.reduceOfNat, Int.reduceNegSucc, reduceCtorEq, ρ5, ρ6, ρ7, ρ8, srcR_c, src_n, src_v, src_s, bnd, lenV, capV, ρ9, ρ10, ρ11, ρ12, ρ13, ρ14, ρ15, ρ16, ρ17, ρ18, ρ19, ρ20, ρ21, ρ22, ρ23, ρ24, Kd.isRo, ρ25, ρ26, bldV, Nat.reduceLeDiff, Int.reduceMul, Int.reduceAdd, Int.reduceSub, Int.reduceToNat, maxLen_eq, zeros_one, appS_some, appV_n, appV_v, appH_t, appH_f, Kd.isEx, ρ27, partV, CH.set_set, lkV, lkR, isKey, mupV, nxtV, ρ28, ρ29]) | (with_reducible first | refine condK_dec (fun _ => ?_) fun _ => ?_ | refine grd_dec (fun _ => ?_) fun _ => ?_ | refine egrd_dec (fun _ => ?_) fun _ => ?_))
        all_goals exact ⟨vt1, by rw [dep_no hk9]; exact h1⟩
    | false =>
      by_cases hq : c.toNat = 39 ∨ c.toNat = 34
      · have ht : tokT (src.drop s.pos) = (strT (hd (src.drop s.pos)) (src.drop (s.pos + 1))).map fun x => (7, x.1, x.2 + 1) := by
          unfold tokT; rw [hhd, if_neg (by simp [hL]), if_neg (by simp [hD]), if_pos hq, List.drop_drop]
        rw [ht]
        have fin : ∀ K', TxtOut A K' p src s vo m (strT (hd (src.drop s.pos)) (src.drop (s.pos + 1))) → TokOut A K' p src s vo m ((strT (hd (src.drop s.pos)) (src.drop (s.pos + 1))).map fun x => (7, x.1, x.2 + 1)) := fun K' g => by
          cases hs : strT (hd (src.drop s.pos)) (src.drop (s.pos + 1)) with
          | none => rw [hs] at g; exact g
          | some x => rw [hs] at g; obtain ⟨vt2, g⟩ := g; exact ⟨vt2, by rw [dep_no (by decide)]; exact g⟩
        have hqr : 32 ≤ hd (src.drop s.pos) ∧ hd (src.drop s.pos) ≠ 92 := by rw [hhd]; omega
        repeat' (first | (simp (disch := first | omega | (decide +kernel) | (repeat first | assumption | exact HExt.refl _ | refine HExt.set ?_ (by first | omega | (simp only [new_nx, set_nx]; omega)) _ | refine HExt.new ?_ _)) only [↓RD, RU, accW_t, accW_f, isW, ↓putF_get, ↓putF_none, ↓evF_t, ↓evF_c, ↓evF_f, new_nx, set_nx, new_get, set_get, getD_zero, getD_succ, u_not, pop, lop, aop, wop, resL, resV, tupleV, akV, isVal, isCell, Value.cells, ρ0, ρ1, ρ2, ρ3, ρ4, ↓reduceIte, Nat.reduceEqDiff, Nat.reduceAdd, Int.reduceOfNat, Int.reduceNegSucc, reduceCtorEq, ρ5, ρ6, ρ7, ρ8, srcR_c, src_n, src_v, src_s, bnd, lenV, capV, ρ9, ρ10, ρ11, ρ12, ρ13, ρ14, ρ15, ρ16, ρ17, ρ18, ρ19, ρ20, ρ21, ρ22, ρ23, ρ24, Kd.isRo, ρ25, ρ26, bldV, Nat.reduceLeDiff, Int.reduceMul, Int.reduceAdd, Int.reduceSub, Int.reduceToNat, maxLen_eq, zeros_one, appS_some, appV_n, appV_v, appH_t, appH_f, Kd.isEx, ρ27, partV, CH.set_set, lkV, lkR, isKey, mupV, nxtV, ρ28, ρ29, hob, str_get, hg, letter_iff, hL, digit_iff, hD]) | (with_reducible first | refine condK_dec (fun _ => ?_) fun _ => ?_ | refine grd_dec (fun _ => ?_) fun _ => ?_ | refine egrd_dec (fun _ => ?_) fun _ => ?_))
        all_goals
          refine (text_wp h hp h0 hqr hb).mono fun v1 K1 h1 => ?_
          repeat' (first | (simp (disch := first | omega | (decide +kernel) | (repeat first | assumption | exact HExt.refl _ | refine HExt.set ?_ (by first | omega | (simp only [new_nx, set_nx]; omega)) _ | refine HExt.new ?_ _)) only [↓RD, RU, accW_t, accW_f, isW, ↓putF_get, ↓putF_none, ↓evF_t, ↓evF_c, ↓evF_f, new_nx, set_nx, new_get, set_get, getD_zero, getD_succ, u_not, pop, lop, aop, wop, resL, resV, tupleV, akV, isVal, isCell, Value.cells, ρ0, ρ1, ρ2, ρ3, ρ4, ↓reduceIte, Nat.reduceEqDiff, Nat.reduceAdd, Int.reduceOfNat, Int.reduceNegSucc, reduceCtorEq, ρ5, ρ6, ρ7, ρ8, srcR_c, src_n, src_v, src_s, bnd, lenV, capV, ρ9, ρ10, ρ11, ρ12, ρ13, ρ14, ρ15, ρ16, ρ17, ρ18, ρ19, ρ20, ρ21, ρ22, ρ23, ρ24, Kd.isRo, ρ25, ρ26, bldV, Nat.reduceLeDiff, Int.reduceMul, Int.reduceAdd, Int.reduceSub, Int.reduceToNat, maxLen_eq, zeros_one, appS_some, appV_n, appV_v, appH_t, appH_f, Kd.isEx, ρ27, partV, CH.set_set, lkV, lkR, isKey, mupV, nxtV, ρ28, ρ29]) | (with_reducible first | refine condK_dec (fun _ => ?_) fun _ => ?_ | refine grd_dec (fun _ => ?_) fun _ => ?_ | refine egrd_dec (fun _ => ?_) fun _ => ?_))
          all_goals exact fin _ h1
      · have ht : tokT (src.drop s.pos) = (symN (src.drop s.pos)).map fun n => (9, (src.drop s.pos).take n, n) := by
          unfold tokT; rw [hhd, if_neg (by simp [hL]), if_neg (by simp [hD]), if_neg hq]
        rw [ht]
        repeat' (first | (simp (disch := first | omega | (decide +kernel) | (repeat first | assumption | exact HExt.refl _ | refine HExt.set ?_ (by first | omega | (simp only [new_nx, set_nx]; omega)) _ | refine HExt.new ?_ _)) only [↓RD, RU, accW_t, accW_f, isW, ↓putF_get, ↓putF_none, ↓evF_t, ↓evF_c, ↓evF_f, new_nx, set_nx, new_get, set_get, getD_zero, getD_succ, u_not, pop, lop, aop, wop, resL, resV, tupleV, akV, isVal, isCell, Value.cells, ρ0, ρ1, ρ2, ρ3, ρ4, ↓reduceIte, Nat.reduceEqDiff, Nat.reduceAdd, Int.reduceOfNat, Int.reduceNegSucc, reduceCtorEq, ρ5, ρ6, ρ7, ρ8, srcR_c, src_n, src_v, src_s, bnd, lenV, capV, ρ9, ρ10, ρ11, ρ12, ρ13, ρ14, ρ15, ρ16, ρ17, ρ18, ρ19, ρ20, ρ21, ρ22, ρ23, ρ24, Kd.isRo, ρ25, ρ26, bldV, Nat.reduceLeDiff, Int.reduceMul, Int.reduceAdd, Int.reduceSub, Int.reduceToNat, maxLen_eq, zeros_one, appS_some, appV_n, appV_v, appH_t, appH_f, Kd.isEx, ρ27, partV, CH.set_set, lkV, lkR, isKey, mupV, nxtV, ρ28, ρ29, hob, str_get, hg, letter_iff, hL, digit_iff, hD]) | (with_reducible first | refine condK_dec (fun _ => ?_) fun _ => ?_ | refine grd_dec (fun _ => ?_) fun _ => ?_ | refine egrd_dec (fun _ => ?_) fun _ => ?_))
        all_goals
          refine (symbol_wp h hp h0 hb hdp).mono fun v1 K1 h1 => ?_
          repeat' (first | (simp (disch := first | omega | (decide +kernel) | (repeat first | assumption | exact HExt.refl _ | refine HExt.set ?_ (by first | omega | (simp only [new_nx, set_nx]; omega)) _ | refine HExt.new ?_ _)) only [↓RD, RU, accW_t, accW_f, isW, ↓putF_get, ↓putF_none, ↓evF_t, ↓evF_c, ↓evF_f, new_nx, set_nx, new_get, set_get, getD_zero, getD_succ, u_not, pop, lop, aop, wop, resL, resV, tupleV, akV, isVal, isCell, Value.cells, ρ0, ρ1, ρ2, ρ3, ρ4, ↓reduceIte, Nat.reduceEqDiff, Nat.reduceAdd, Int.reduceOfNat, Int.reduceNegSucc, reduceCtorEq, ρ5, ρ6, ρ7, ρ8, srcR_c, src_n, src_v, src_s, bnd, lenV, capV, ρ9, ρ10, ρ11, ρ12, ρ13, ρ14, ρ15, ρ16, ρ17, ρ18, ρ19, ρ20, ρ21, ρ22, ρ23, ρ24, Kd.isRo, ρ25, ρ26, bldV, Nat.reduceLeDiff, Int.reduceMul, Int.reduceAdd, Int.reduceSub, Int.reduceToNat, maxLen_eq, zeros_one, appS_some, appV_n, appV_v, appH_t, appH_f, Kd.isEx, ρ27, partV, CH.set_set, lkV, lkR, isKey, mupV, nxtV, ρ28, ρ29]) | (with_reducible first | refine condK_dec (fun _ => ?_) fun _ => ?_ | refine grd_dec (fun _ => ?_) fun _ => ?_ | refine egrd_dec (fun _ => ?_) fun _ => ?_))
          all_goals
            unfold SymOut at h1
            cases hs : symN (src.drop s.pos) with
            | none => rw [hs] at h1; exact h1
            | some x => rw [hs] at h1; exact h1
/-- Something more is open. -/
theorem opn_app {A K : CH} {v : Value} {ns : List Nat} {n : Nat} (h : OpnAt A K v ns) (hA : HExt A K) (hl : ns.length < 1000000) {Q : Value → CH → Prop} (k : ∀ v' K', OpnAt A K' v' (ns ++ [n]) → HExt A K' → K.nx ≤ K'.nx → (∀ l, l < K.nx → (∀ o n c, v ≠ .slice (some ⟨l, o, none⟩) n c) → K'.ob l = K.ob l) → Q v' K') :
    optW (appV 3 1 8 v [.int .i64 n] 1 K) Q := by
  obtain ⟨b, kd, c, os, rfl, h1, h2, h3, h4, h5, h6, h7, h8⟩ := h
  rw [appV_r, h3, appR_c, if_neg (by decide), if_pos ⟨rfl, rfl, h4, by omega, rfl, by omega, by rw [maxLen_eq]; omega⟩, optW_some]
  have hnew : ∀ H : CH, H.nx = K.nx → (H.new (.cells (os.take (ns.length * 1) ++ [.int .i64 (n : Int)]) 3 .gr)).ob K.nx = .cells (os.take (ns.length * 1) ++ [.int .i64 (n : Int)]) 3 .gr := fun H hH => by rw [new_get, if_pos hH.symm]
  have hcells : ∀ i, i < (ns ++ [n]).length → (os.take (ns.length * 1) ++ [.int .i64 (n : Int)])[i]? = some (.int .i64 ((ns ++ [n]).getD i 0 : Nat)) := fun i hi => by
    simp only [List.length_append, List.length_singleton] at hi
    by_cases hlt : i < ns.length
    · rw [List.getElem?_append_left (by simp; omega), List.getElem?_take, if_pos (by omega), h8 i hlt]
      simp [List.getD, List.getElem?_append_left hlt]
    · have : i = ns.length := by omega
      subst this
      rw [List.getElem?_append_right (by simp; omega)]
      simp [List.getD, h7]
  have hop : ∀ K' : CH, K'.nx = K.nx + 1 → K'.ob K.nx = .cells (os.take (ns.length * 1) ++ [.int .i64 (n : Int)]) 3 .gr → OpnAt A K' (.slice (some ⟨K.nx, 0, none⟩) (ns.length + 1) (ns.length + 1)) (ns ++ [n]) := fun K' g1 g2 =>
    ⟨K.nx, .gr, ns.length + 1, _, by simp, hA.nx, by omega, g2, rfl, by simp, by omega, by simp; omega, hcells⟩
  unfold appH
  split
  · exact k _ _ (hop _ rfl (hnew K rfl)) (hA.new _) (Nat.le_succ _) fun l hl _ => by rw [new_get, if_neg (by omega)]
  · refine k _ _ (hop _ rfl (hnew (K.set b .dead) rfl)) ((hA.set h1 _).new _) (Nat.le_succ _) fun l hl hne => ?_
    rw [new_get, if_neg (by show ¬ l = K.nx; omega), set_get, if_neg]
    rintro rfl
    exact hne _ _ _ rfl
/-- The reader stays where what is open turns; and its field is laid. -/
theorem RdAt.opnv {A K K' : CH} {p : Nat} {src : List UInt8} {s : RS} {vo vo' vt : Value} {m : Nat} {ns : List Nat} (h : RdAt A K p src s vo vt m) (hb : s.out.length + ns.length ≤ 1000000) (hx : HExt A K') (hn : K.nx ≤ K'.nx) (hg : OpnAt A K' vo' ns) (hk : ∀ l, l < K.nx → (∀ o n c, vo ≠ .slice (some ⟨l, o, none⟩) n c) → K'.ob l = K.ob l) :
    RdAt A (K'.set p (.cells [.string (str src), .int .i64 s.pos, .int .i64 s.line, .int .i64 s.dep, vo', vt, .map (some m), .int .i64 s.err, .int .i64 s.wh] 44 .ex)) p src { s with opn := ns } vo' vt m ∧ K'.ob p = K.ob p := by
  have hob := h.ob
  obtain ⟨b, kd, c, os, h1, h2, h3, h4, h5⟩ := h.opn
  have hne : ∀ l, l ≠ b → ∀ o n c, vo ≠ .slice (some ⟨l, o, none⟩) n c := fun l hl o n c hv => by
    rw [h1] at hv; cases hv; exact hl rfl
  have hpb : p ≠ b := fun e => by
    rw [← e, hob] at h4
    have := (CObj.cells.inj h4).2.1
    revert this; decide
  have hmb : m ≠ b := fun e => by rw [← e, h.mp] at h4; cases h4
  have hp := (hk p h.pl (hne p hpb)).trans hob
  have hm' := (hk m h.ml (hne m hmb)).trans h.mp
  obtain ⟨b2, kd2, c2, os2, g1, g2, g3, g4, g5⟩ := hg
  have hb2p : b2 ≠ p := fun e => by
    rw [e, hp] at g4
    have := (CObj.cells.inj g4).2.1
    revert this; decide
  have hmp : m ≠ p := fun e => by rw [e, hp] at hm'; cases hm'
  refine ⟨⟨by rw [set_get, if_pos rfl], Nat.lt_of_lt_of_le h.pl hn, h.pa, ⟨b2, kd2, c2, os2, g1, g2, g3, by rw [set_get, if_neg hb2p]; exact g4, g5⟩, ?_, by rw [set_get, if_neg hmp]; exact hm', Nat.lt_of_lt_of_le h.ml hn, h.ma, hx.set h.pa _, ⟨h.bd.pos, h.bd.line, h.bd.dep, h.bd.err, h.bd.wh, hb⟩, h.sl⟩, hk p h.pl (hne p hpb)⟩
  rcases h.out with g | ⟨b3, kd3, e3, q1, q2, q3, q4⟩
  · exact .inl g
  · have hb3b : b3 ≠ b := fun e => by
      rw [e, h4] at q3
      have := (CObj.cells.inj q3).2.1
      revert this; decide
    have hb3p : b3 ≠ p := fun e => by
      rw [e, hob] at q3
      have := (CObj.cells.inj q3).2.1
      revert this; decide
    exact .inr ⟨b3, kd3, e3, q1, Nat.lt_of_lt_of_le q2 hn, by rw [set_get, if_neg hb3p]; exact (hk b3 q2 (hne b3 hb3b)).trans q3, q4⟩
theorem tw_spec {n : Nat} : ∀ {st : List Nat}, st.getLast? = some 0 → ∃ k, (st.takeWhile fun x => decide (n < x)).length = k ∧ k < st.length ∧ (∀ i, i < k → n < st.getD i 0) ∧ ¬ n < st.getD k 0 ∧ (st.dropWhile fun x => decide (n < x)) = st.drop k
  | [], h => by cases h
  | a :: r, h => by
    by_cases ha : n < a
    · cases r with
      | nil => simp at h; omega
      | cons b r =>
        obtain ⟨k, h1, h2, h3, h4, h5⟩ := tw_spec (n := n) (st := b :: r) (by simpa using h)
        refine ⟨k + 1, by rw [List.takeWhile_cons_of_pos (by simpa using ha)]; simp [h1], by simp at h2 ⊢; omega, fun i hi => ?_, by simpa using h4, by rw [List.dropWhile_cons_of_pos (by simpa using ha), h5]; rfl⟩
        cases i with
        | zero => exact ha
        | succ i => simpa using h3 i (by omega)
    · exact ⟨0, by rw [List.takeWhile_cons_of_neg (by simpa using ha)]; rfl, by simp, fun i hi => absurd hi (by omega), by simpa using ha, by rw [List.dropWhile_cons_of_neg (by simpa using ha)]; rfl⟩
theorem sl_open {b n c j : Nat} (h2 : j + 1 ≤ c) : sliceV 1 (.slice (some ⟨b, 0, none⟩) n c) ((0 : Nat) : Int) ((j : Nat) + 1 : Int) (c : Int) false = some (.slice (some ⟨b, 0, none⟩) (j + 1) c) := by
  unfold sliceV
  simp only [Bool.false_eq_true, if_false]
  rw [if_pos (by omega), if_neg (by omega)]
  have e1 : (((j : Nat) : Int) + 1 - ((0 : Nat) : Int)).toNat = j + 1 := by omega
  have e2 : ((c : Int) - ((0 : Nat) : Int)).toNat = c := by omega
  rw [e1, e2]
  rfl
theorem okSl_of {K : CH} {b o n c e : Nat} {os : List Value} {kd : Kd} (h : K.ob b = .cells os e kd) : okSl K e (.slice (some ⟨b, o, none⟩) n c) = true := by
  simp only [okSl, h]
  cases kd <;> simp
def indS (s : RS) (st : List Nat) (n : Nat) : RS := if (indT s.line st n).2.headD 0 = n then { s with out := s.out ++ (indT s.line st n).1, opn := (indT s.line st n).2.reverse } else { s with out := s.out ++ (indT s.line st n).1, opn := (indT s.line st n).2.reverse, err := 21, wh := s.line }
theorem indent_wp {A K : CH} {p : Nat} {src : List UInt8} {s : RS} {vo vt : Value} {m : Nat} (h : RdAt A K p src s vo vt m) {st : List Nat} (hst : s.opn = st.reverse) (hz : st.getLast? = some 0) (n : Nat) (hn : n ≤ 100000) (h0 : s.err = 0) (hb : s.out.length + s.opn.length < 400000) :
    WpF (tblG Try.prog LG GG) 27 [.pointer (some ⟨p, 0, none⟩), .int .i64 n] K fun v K' => ∃ vo' vt', RdAt A K' p src (indS s st n) vo' vt' m := by
  have hsl := h.sl
  have hob := h.ob
  have hpl := h.pl
  have hln := h.bd.line
  have hlen : s.opn.length = st.length := by rw [hst]; simp
  have hst0 : 0 < st.length := by cases st with
    | nil => cases hz
    | cons a r => simp
  obtain ⟨b, kd, c, os, hvo, o1, o2, o3, o4, o5, o6, o7, o8⟩ := h.opn
  have hget : ∀ i, i < st.length → os[st.length - 1 - i]? = some (.int .i64 (st.getD i 0 : Nat)) := fun i hi => by
    rw [o8 _ (by omega), hst]
    congr 3
    simp only [List.getD_eq_getElem?_getD]
    rw [List.getElem?_reverse (by omega)]
    congr 2; omega
  subst hvo
  refine wpF_rG (by rfl) (by kernel_rfl) ?_; (conv in (rF _ _).body => reduce); (conv in (rF _ _).res => reduce)
  have hg0 := hget 0 hst0
  have hsub : ((s.opn.length : Nat) : Int) - 1 = ((st.length - 1 - 0 : Nat) : Int) := by omega
  by_cases hlt : st.headD 0 < n
  · have hlt' : st.getD 0 0 < n := by cases st with
      | nil => exact hlt
      | cons a r => exact hlt
    have hind : indT s.line st n = ([⟨2, s.line, []⟩], n :: st) := by unfold indT; rw [if_pos hlt]
    have hx1 : HExt K (K.new (.cells [.int .i64 (n : Int)] 3 .ex)) := by (repeat (first | assumption | exact HExt.refl _ | (refine HExt.set ?_ (by first | omega | (simp only [new_nx, set_nx]; omega)) _) | (refine HExt.new ?_ _)))
    have ho1 := (h.mv hx1).opn
    repeat' (first | (simp (disch := first | omega | (decide +kernel) | (repeat first | assumption | exact HExt.refl _ | refine HExt.set ?_ (by first | omega | (simp only [new_nx, set_nx]; omega)) _ | refine HExt.new ?_ _)) only [↓r_seq, ↓r_block, ↓seqK_n, ↓seqK_r, ↓seqK_e, ↓blockK_n, ↓blockK_r, ↓blockK_e, ↓loopI_n, ↓loopI_r, ↓loopI_e, ↓funK_n, ↓funK_r, ↓r_reg, ↓r_drw, ↓r_cond, ↓condK_t, ↓condK_f, ↓i_cons, ↓eitemK, ↓e_nil, ↓e_cons, ↓e_grd, ↓egrd_tt, ↓egrd_ff, ↓egrd_tf, ↓egrd_ft, ↓egrd_s, ↓drwK, ↓r_drw2, ↓chk_nil, ↓chk_n, ↓chk_g, agL, agV_tt, agV_ff, agV_tf, agV_ft, agV_s, agE, accW_t, accW_f, isW, ↓i_grd, ↓grd_tt, ↓grd_ff, ↓grd_tf, ↓grd_ft, ↓grd_s, ↓itemK, ↓o_p, ↓o_l, ↓o_a, ↓o_w, ↓o_call, ↓o_callv, ↓callvK_f, ↓callvK_y, ↓r_range, ↓rangeV_f, ↓putF_get, ↓putF_none, ↓evF_t, ↓evF_c, ↓evF_f, new_nx, set_nx, new_get, set_get, optV_some, optW_some, optA_some, finK_some, ↓wpI_nil, ↓wpR_skip, ↓wpR_exit, ↓wpR_ret, getD_zero, getD_succ, b_add, b_sub, b_mul, b_quo, b_rem, b_eql, b_neq, b_lss, b_leq, b_gtr, b_geq, u_not, w_i64, w_u64, w_u8, t_div, t_mod, pop, lop, aop, wop, resL, resV, tupleV, akV, isVal, isCell, Value.cells, List.map_cons, List.map_nil, Bool.not_true, Bool.not_false, Option.map_some, ↓reduceIte, Nat.reduceEqDiff, Nat.reduceAdd, Int.reduceOfNat, Int.reduceNegSucc, decide_true, decide_false, reduceCtorEq, List.getElem?_cons_zero, List.getElem?_cons_succ, List.length_cons, List.length_nil, setc_0, setc_s, srcR_c, src_n, src_v, src_r, src_s, bnd, lenV, capV, Option.isSome_none, Option.isNone_none, Option.isSome_some, Option.isNone_some, Bool.or_false, Bool.or_true, Bool.true_or, Bool.false_or, List.take_succ_cons, List.take_zero, List.drop_succ_cons, List.drop_zero, List.cons_append, List.nil_append, List.append_nil, List.take_nil, List.drop_nil, List.all_cons, List.all_nil, Bool.and_true, Bool.true_and, Kd.isRo, List.size_toArray, List.getElem?_toArray, List.toList_toArray, bldV, Nat.reduceLeDiff, Nat.le_refl, u_neg, b_or0, Int.reduceMul, Int.reduceAdd, Int.reduceSub, Int.zero_mul, Int.zero_add, Int.add_zero, b_and3, b_and8, b_and24, b_shr2, b_shrs2, b_shr8, b_shr32, b_shr56, b_shl2, b_shl8, b_shl32, toNat_add1, toNat_add2, toNat_addn, toNat_add2n, Int.reduceToNat, maxLen_eq, zeros_one, zeros_two, zeros_three, take_mapl, List.length_map, List.map_append, List.length_append, beq_self_eq_true, beq_true, beq_false, Bool.false_xor, Bool.true_xor, Bool.xor_false, Bool.xor_true, dec_t, dec_f, ↓w_app, appS_some, appV_n, appV_v, appH_t, appH_f, Kd.isEx, Bool.false_and, partV, if_pos, if_neg, Nat.mul_one, Nat.one_mul, Nat.zero_add, Nat.add_zero, Int.toNat_natCast, true_and, and_true, hob, o3, hsub, hg0]) | (with_reducible first | refine condK_dec (fun _ => ?_) fun _ => ?_ | refine grd_dec (fun _ => ?_) fun _ => ?_ | refine egrd_dec (fun _ => ?_) fun _ => ?_))
    refine opn_app ho1 (h.E.trans hx1) (by omega) fun vo' K2 j1 j2 j3 j4 => ?_
    obtain ⟨h2, e2⟩ := (h.mv hx1).opnv (by simp; omega) j2 j3 j1 j4
    have hob2 := e2.trans ((hx1.ob p hpl).trans hob)
    have j1' := j1
    obtain ⟨b2, kd2, c2, os2, rfl, _⟩ := j1'
    have hll : (s.opn ++ [n]).length = s.opn.length + 1 := by simp
    rw [hll] at h2
    repeat' (first | (simp (disch := first | omega | (decide +kernel) | (repeat first | assumption | exact HExt.refl _ | refine HExt.set ?_ (by first | omega | (simp only [new_nx, set_nx]; omega)) _ | refine HExt.new ?_ _)) only [↓RD, RU, accW_t, accW_f, isW, ↓putF_get, ↓putF_none, ↓evF_t, ↓evF_c, ↓evF_f, new_nx, set_nx, new_get, set_get, getD_zero, getD_succ, u_not, pop, lop, aop, wop, resL, resV, tupleV, akV, isVal, isCell, Value.cells, ρ0, ρ1, ρ2, ρ3, ρ4, ↓reduceIte, Nat.reduceEqDiff, Nat.reduceAdd, Int.reduceOfNat, Int.reduceNegSucc, reduceCtorEq, ρ5, ρ6, ρ7, ρ8, srcR_c, src_n, src_v, src_s, bnd, lenV, capV, ρ9, ρ10, ρ11, ρ12, ρ13, ρ14, ρ15, ρ16, ρ17, ρ18, ρ19, ρ20, ρ21, ρ22, ρ23, ρ24, Kd.isRo, ρ25, ρ26, bldV, Nat.reduceLeDiff, Int.reduceMul, Int.reduceAdd, Int.reduceSub, Int.reduceToNat, maxLen_eq, zeros_one, appS_some, appV_n, appV_v, appH_t, appH_f, Kd.isEx, ρ27, partV, CH.set_set, lkV, lkR, isKey, mupV, nxtV, ρ28, ρ29, hob2]) | (with_reducible first | refine condK_dec (fun _ => ?_) fun _ => ?_ | refine grd_dec (fun _ => ?_) fun _ => ?_ | refine egrd_dec (fun _ => ?_) fun _ => ?_))
    refine (put_wp h2 2 s.line [] (by simp; omega)).mono fun v3 K3 ⟨vt3, h3⟩ => ?_
    repeat' (first | (simp (disch := first | omega | (decide +kernel) | (repeat first | assumption | exact HExt.refl _ | refine HExt.set ?_ (by first | omega | (simp only [new_nx, set_nx]; omega)) _ | refine HExt.new ?_ _)) only [↓RD, RU, accW_t, accW_f, isW, ↓putF_get, ↓putF_none, ↓evF_t, ↓evF_c, ↓evF_f, new_nx, set_nx, new_get, set_get, getD_zero, getD_succ, u_not, pop, lop, aop, wop, resL, resV, tupleV, akV, isVal, isCell, Value.cells, ρ0, ρ1, ρ2, ρ3, ρ4, ↓reduceIte, Nat.reduceEqDiff, Nat.reduceAdd, Int.reduceOfNat, Int.reduceNegSucc, reduceCtorEq, ρ5, ρ6, ρ7, ρ8, srcR_c, src_n, src_v, src_s, bnd, lenV, capV, ρ9, ρ10, ρ11, ρ12, ρ13, ρ14, ρ15, ρ16, ρ17, ρ18, ρ19, ρ20, ρ21, ρ22, ρ23, ρ24, Kd.isRo, ρ25, ρ26, bldV, Nat.reduceLeDiff, Int.reduceMul, Int.reduceAdd, Int.reduceSub, Int.reduceToNat, maxLen_eq, zeros_one, appS_some, appV_n, appV_v, appH_t, appH_f, Kd.isEx, ρ27, partV, CH.set_set, lkV, lkR, isKey, mupV, nxtV, ρ28, ρ29]) | (with_reducible first | refine condK_dec (fun _ => ?_) fun _ => ?_ | refine grd_dec (fun _ => ?_) fun _ => ?_ | refine egrd_dec (fun _ => ?_) fun _ => ?_))
    all_goals
      have hI : indS s st n = putS { s with opn := s.opn ++ [n] } 2 s.line [] := by
        unfold indS
        rw [hind]
        show (if n = n then _ else _) = _
        rw [if_pos rfl]
        simp only [List.reverse_cons, ← hst]
        rfl
      exact ⟨.slice (some ⟨b2, 0, none⟩) (s.opn.length + 1) c2, vt3, by rw [hI]; exact h3⟩
  · obtain ⟨k, hk1, hk2, hk3, hk4, hk5⟩ := tw_spec (n := n) hz
    have hind : indT s.line st n = (List.replicate k ⟨3, s.line, []⟩, st.drop k) := by unfold indT; rw [if_neg hlt, hk1, hk5]
    have hlt' : ¬ st.getD 0 0 < n := by cases st with
      | nil => exact absurd hst0 (by simp)
      | cons a r => exact fun g => hlt (by simpa using g)
    have hk0 : k = 0 ∨ 0 < k := by omega
    repeat' (first | (simp (disch := first | omega | (decide +kernel) | (repeat first | assumption | exact HExt.refl _ | refine HExt.set ?_ (by first | omega | (simp only [new_nx, set_nx]; omega)) _ | refine HExt.new ?_ _)) only [↓RD, RU, accW_t, accW_f, isW, ↓putF_get, ↓putF_none, ↓evF_t, ↓evF_c, ↓evF_f, new_nx, set_nx, new_get, set_get, getD_zero, getD_succ, u_not, pop, lop, aop, wop, resL, resV, tupleV, akV, isVal, isCell, Value.cells, ρ0, ρ1, ρ2, ρ3, ρ4, ↓reduceIte, Nat.reduceEqDiff, Nat.reduceAdd, Int.reduceOfNat, Int.reduceNegSucc, reduceCtorEq, ρ5, ρ6, ρ7, ρ8, srcR_c, src_n, src_v, src_s, bnd, lenV, capV, ρ9, ρ10, ρ11, ρ12, ρ13, ρ14, ρ15, ρ16, ρ17, ρ18, ρ19, ρ20, ρ21, ρ22, ρ23, ρ24, Kd.isRo, ρ25, ρ26, bldV, Nat.reduceLeDiff, Int.reduceMul, Int.reduceAdd, Int.reduceSub, Int.reduceToNat, maxLen_eq, zeros_one, appS_some, appV_n, appV_v, appH_t, appH_f, Kd.isEx, ρ27, partV, CH.set_set, lkV, lkR, isKey, mupV, nxtV, ρ28, ρ29, hob, o3, hsub, hg0]) | (with_reducible first | refine condK_dec (fun _ => ?_) fun _ => ?_ | refine grd_dec (fun _ => ?_) fun _ => ?_ | refine egrd_dec (fun _ => ?_) fun _ => ?_))
    refine loop_w (fun q fr K1 => ∃ i vt1, q = k - i ∧ i ≤ k ∧ fr 4 = .int .i64 ((st.length - 1 - i : Nat) : Int) ∧ RdAt A K1 p src { s with out := s.out ++ List.replicate i ⟨3, s.line, []⟩ } (.slice (some ⟨b, 0, none⟩) s.opn.length c) vt1 m) (n := k) ⟨0, vt, rfl, by omega, by repeat' (first | (simp (disch := first | omega | (decide +kernel) | (repeat first | assumption | exact HExt.refl _ | refine HExt.set ?_ (by first | omega | (simp only [new_nx, set_nx]; omega)) _ | refine HExt.new ?_ _)) only [↓RD, RU, accW_t, accW_f, isW, ↓putF_get, ↓putF_none, ↓evF_t, ↓evF_c, ↓evF_f, new_nx, set_nx, new_get, set_get, getD_zero, getD_succ, u_not, pop, lop, aop, wop, resL, resV, tupleV, akV, isVal, isCell, Value.cells, ρ0, ρ1, ρ2, ρ3, ρ4, ↓reduceIte, Nat.reduceEqDiff, Nat.reduceAdd, Int.reduceOfNat, Int.reduceNegSucc, reduceCtorEq, ρ5, ρ6, ρ7, ρ8, srcR_c, src_n, src_v, src_s, bnd, lenV, capV, ρ9, ρ10, ρ11, ρ12, ρ13, ρ14, ρ15, ρ16, ρ17, ρ18, ρ19, ρ20, ρ21, ρ22, ρ23, ρ24, Kd.isRo, ρ25, ρ26, bldV, Nat.reduceLeDiff, Int.reduceMul, Int.reduceAdd, Int.reduceSub, Int.reduceToNat, maxLen_eq, zeros_one, appS_some, appV_n, appV_v, appH_t, appH_f, Kd.isEx, ρ27, partV, CH.set_set, lkV, lkR, isKey, mupV, nxtV, ρ28, ρ29]) | (with_reducible first | refine condK_dec (fun _ => ?_) fun _ => ?_ | refine grd_dec (fun _ => ?_) fun _ => ?_ | refine egrd_dec (fun _ => ?_) fun _ => ?_)), by simpa using h⟩ ?_
    rintro q fr K1 ⟨i, vt1, rfl, hi, f4, h1⟩ hag
    have hob1 := h1.ob
    have hpl1 := h1.pl
    obtain ⟨b', kd', c', os', e', q1, q2, q3, q4, q5, q6, q7, q8⟩ := h1.opn
    cases e'
    have q7' : s.opn.length ≤ os'.length := q7
    have q5' : s.opn.length ≤ c := q5
    have hbp : b ≠ p := fun e => by
      rw [e, hob1] at q3
      have := (CObj.cells.inj q3).2.1
      revert this; decide
    have hgi : os'[st.length - 1 - i]? = some (.int .i64 (st.getD i 0 : Nat)) := by
      rw [q8 _ (by show _ < s.opn.length; omega)]
      show some (Value.int .i64 ((s.opn.getD (st.length - 1 - i) 0 : Nat) : Int)) = _
      rw [hst]
      congr 3
      simp only [List.getD_eq_getElem?_getD]
      rw [List.getElem?_reverse (by omega)]
      congr 2; omega
    by_cases hik : i < k
    · have hgt := hk3 i hik
      repeat' (first | (simp (disch := first | omega | (decide +kernel) | (repeat first | assumption | exact HExt.refl _ | refine HExt.set ?_ (by first | omega | (simp only [new_nx, set_nx]; omega)) _ | refine HExt.new ?_ _)) only [↓RD, RU, accW_t, accW_f, isW, ↓putF_get, ↓putF_none, ↓evF_t, ↓evF_c, ↓evF_f, new_nx, set_nx, new_get, set_get, getD_zero, getD_succ, u_not, pop, lop, aop, wop, resL, resV, tupleV, akV, isVal, isCell, Value.cells, ρ0, ρ1, ρ2, ρ3, ρ4, ↓reduceIte, Nat.reduceEqDiff, Nat.reduceAdd, Int.reduceOfNat, Int.reduceNegSucc, reduceCtorEq, ρ5, ρ6, ρ7, ρ8, srcR_c, src_n, src_v, src_s, bnd, lenV, capV, ρ9, ρ10, ρ11, ρ12, ρ13, ρ14, ρ15, ρ16, ρ17, ρ18, ρ19, ρ20, ρ21, ρ22, ρ23, ρ24, Kd.isRo, ρ25, ρ26, bldV, Nat.reduceLeDiff, Int.reduceMul, Int.reduceAdd, Int.reduceSub, Int.reduceToNat, maxLen_eq, zeros_one, appS_some, appV_n, appV_v, appH_t, appH_f, Kd.isEx, ρ27, partV, CH.set_set, lkV, lkR, isKey, mupV, nxtV, ρ28, ρ29, hag, hob1, q3, f4, hgi]) | (with_reducible first | refine condK_dec (fun _ => ?_) fun _ => ?_ | refine grd_dec (fun _ => ?_) fun _ => ?_ | refine egrd_dec (fun _ => ?_) fun _ => ?_))
      refine (put_wp h1 3 s.line [] (by simp; omega)).mono fun v2 K2 ⟨vt2, h2⟩ => ?_
      have hsub1 : ((st.length - 1 - i : Nat) : Int) - 1 = ((st.length - 1 - (i + 1) : Nat) : Int) := by omega
      repeat' (first | (simp (disch := first | omega | (decide +kernel) | (repeat first | assumption | exact HExt.refl _ | refine HExt.set ?_ (by first | omega | (simp only [new_nx, set_nx]; omega)) _ | refine HExt.new ?_ _)) only [↓RD, RU, accW_t, accW_f, isW, ↓putF_get, ↓putF_none, ↓evF_t, ↓evF_c, ↓evF_f, new_nx, set_nx, new_get, set_get, getD_zero, getD_succ, u_not, pop, lop, aop, wop, resL, resV, tupleV, akV, isVal, isCell, Value.cells, ρ0, ρ1, ρ2, ρ3, ρ4, ↓reduceIte, Nat.reduceEqDiff, Nat.reduceAdd, Int.reduceOfNat, Int.reduceNegSucc, reduceCtorEq, ρ5, ρ6, ρ7, ρ8, srcR_c, src_n, src_v, src_s, bnd, lenV, capV, ρ9, ρ10, ρ11, ρ12, ρ13, ρ14, ρ15, ρ16, ρ17, ρ18, ρ19, ρ20, ρ21, ρ22, ρ23, ρ24, Kd.isRo, ρ25, ρ26, bldV, Nat.reduceLeDiff, Int.reduceMul, Int.reduceAdd, Int.reduceSub, Int.reduceToNat, maxLen_eq, zeros_one, appS_some, appV_n, appV_v, appH_t, appH_f, Kd.isEx, ρ27, partV, CH.set_set, lkV, lkR, isKey, mupV, nxtV, ρ28, ρ29, f4, hsub1]) | (with_reducible first | refine condK_dec (fun _ => ?_) fun _ => ?_ | refine grd_dec (fun _ => ?_) fun _ => ?_ | refine egrd_dec (fun _ => ?_) fun _ => ?_))
      all_goals exact ⟨_, by omega, i + 1, vt2, rfl, by omega, rfl, by
        have e : s.out ++ List.replicate (i + 1) (⟨3, s.line, []⟩ : Tok) = (s.out ++ List.replicate i ⟨3, s.line, []⟩) ++ [⟨3, s.line, []⟩] := by rw [List.replicate_succ', List.append_assoc]
        rw [e]; exact h2⟩
    · have hik' : i = k := by omega
      subst hik'
      have hsv := @sl_open b s.opn.length c (st.length - 1 - i) (by omega)
      have hok := okSl_of (o := 0) (n := s.opn.length) (c := c) q3
      have hlen2 : (st.drop i).reverse.length = st.length - 1 - i + 1 := by simp; omega
      have hopn2 : OpnAt A K1 (.slice (some ⟨b, 0, none⟩) (st.length - 1 - i + 1) c) (st.drop i).reverse := ⟨b, kd', c, os', by rw [hlen2], q1, q2, q3, q4, by omega, q6, by omega, fun j hj => by
        rw [q8 j (by show j < s.opn.length; omega)]
        show some (Value.int .i64 ((s.opn.getD j 0 : Nat) : Int)) = _
        rw [hst]
        congr 3
        simp only [List.getD_eq_getElem?_getD]
        rw [List.getElem?_reverse (by omega), List.getElem?_reverse (by simp; omega), List.getElem?_drop]
        congr 2
        simp; omega⟩
      obtain ⟨h2, _⟩ := h1.opnv (ns := (st.drop i).reverse) (by simp; omega) h1.E (Nat.le_refl _) hopn2 (fun _ _ _ => rfl)
      have hhd : (st.drop i).headD 0 = st.getD i 0 := by
        rw [List.drop_eq_getElem_cons hk2]
        simp [List.getD, List.getElem?_eq_getElem hk2]
      by_cases hen : st.getD i 0 = n
      · have hI : indS s st n = { s with out := s.out ++ List.replicate i ⟨3, s.line, []⟩, opn := (st.drop i).reverse } := by
          unfold indS
          rw [hind]
          show (if (st.drop i).headD 0 = n then _ else _) = _
          rw [if_pos (by rw [hhd]; exact hen)]
        rw [hI]
        repeat' (first | (simp (disch := first | omega | (decide +kernel) | (repeat first | assumption | exact HExt.refl _ | refine HExt.set ?_ (by first | omega | (simp only [new_nx, set_nx]; omega)) _ | refine HExt.new ?_ _)) only [↓RD, RU, accW_t, accW_f, isW, ↓putF_get, ↓putF_none, ↓evF_t, ↓evF_c, ↓evF_f, new_nx, set_nx, new_get, set_get, getD_zero, getD_succ, u_not, pop, lop, aop, wop, resL, resV, tupleV, akV, isVal, isCell, Value.cells, ρ0, ρ1, ρ2, ρ3, ρ4, ↓reduceIte, Nat.reduceEqDiff, Nat.reduceAdd, Int.reduceOfNat, Int.reduceNegSucc, reduceCtorEq, ρ5, ρ6, ρ7, ρ8, srcR_c, src_n, src_v, src_s, bnd, lenV, capV, ρ9, ρ10, ρ11, ρ12, ρ13, ρ14, ρ15, ρ16, ρ17, ρ18, ρ19, ρ20, ρ21, ρ22, ρ23, ρ24, Kd.isRo, ρ25, ρ26, bldV, Nat.reduceLeDiff, Int.reduceMul, Int.reduceAdd, Int.reduceSub, Int.reduceToNat, maxLen_eq, zeros_one, appS_some, appV_n, appV_v, appH_t, appH_f, Kd.isEx, ρ27, partV, CH.set_set, lkV, lkR, isKey, mupV, nxtV, ρ28, ρ29, hag, hob1, q3, f4, hgi, hsv, hok, hbp]) | (with_reducible first | refine condK_dec (fun _ => ?_) fun _ => ?_ | refine grd_dec (fun _ => ?_) fun _ => ?_ | refine egrd_dec (fun _ => ?_) fun _ => ?_))
        all_goals exact ⟨_, _, h2⟩
      · have hI : indS s st n = { s with out := s.out ++ List.replicate i ⟨3, s.line, []⟩, opn := (st.drop i).reverse, err := 21, wh := s.line } := by
          unfold indS
          rw [hind]
          show (if (st.drop i).headD 0 = n then _ else _) = _
          rw [if_neg (by rw [hhd]; exact hen)]
        rw [hI]
        repeat' (first | (simp (disch := first | omega | (decide +kernel) | (repeat first | assumption | exact HExt.refl _ | refine HExt.set ?_ (by first | omega | (simp only [new_nx, set_nx]; omega)) _ | refine HExt.new ?_ _)) only [↓RD, RU, accW_t, accW_f, isW, ↓putF_get, ↓putF_none, ↓evF_t, ↓evF_c, ↓evF_f, new_nx, set_nx, new_get, set_get, getD_zero, getD_succ, u_not, pop, lop, aop, wop, resL, resV, tupleV, akV, isVal, isCell, Value.cells, ρ0, ρ1, ρ2, ρ3, ρ4, ↓reduceIte, Nat.reduceEqDiff, Nat.reduceAdd, Int.reduceOfNat, Int.reduceNegSucc, reduceCtorEq, ρ5, ρ6, ρ7, ρ8, srcR_c, src_n, src_v, src_s, bnd, lenV, capV, ρ9, ρ10, ρ11, ρ12, ρ13, ρ14, ρ15, ρ16, ρ17, ρ18, ρ19, ρ20, ρ21, ρ22, ρ23, ρ24, Kd.isRo, ρ25, ρ26, bldV, Nat.reduceLeDiff, Int.reduceMul, Int.reduceAdd, Int.reduceSub, Int.reduceToNat, maxLen_eq, zeros_one, appS_some, appV_n, appV_v, appH_t, appH_f, Kd.isEx, ρ27, partV, CH.set_set, lkV, lkR, isKey, mupV, nxtV, ρ28, ρ29, hag, hob1, q3, f4, hgi, hsv, hok, hbp]) | (with_reducible first | refine condK_dec (fun _ => ?_) fun _ => ?_ | refine grd_dec (fun _ => ?_) fun _ => ?_ | refine egrd_dec (fun _ => ?_) fun _ => ?_))
        all_goals
          refine (fail_wp0 h2 s.line 21 hln (by decide) h0).mono fun v3 K3 ⟨h3, _⟩ => ?_
          repeat' (first | (simp (disch := first | omega | (decide +kernel) | (repeat first | assumption | exact HExt.refl _ | refine HExt.set ?_ (by first | omega | (simp only [new_nx, set_nx]; omega)) _ | refine HExt.new ?_ _)) only [↓RD, RU, accW_t, accW_f, isW, ↓putF_get, ↓putF_none, ↓evF_t, ↓evF_c, ↓evF_f, new_nx, set_nx, new_get, set_get, getD_zero, getD_succ, u_not, pop, lop, aop, wop, resL, resV, tupleV, akV, isVal, isCell, Value.cells, ρ0, ρ1, ρ2, ρ3, ρ4, ↓reduceIte, Nat.reduceEqDiff, Nat.reduceAdd, Int.reduceOfNat, Int.reduceNegSucc, reduceCtorEq, ρ5, ρ6, ρ7, ρ8, srcR_c, src_n, src_v, src_s, bnd, lenV, capV, ρ9, ρ10, ρ11, ρ12, ρ13, ρ14, ρ15, ρ16, ρ17, ρ18, ρ19, ρ20, ρ21, ρ22, ρ23, ρ24, Kd.isRo, ρ25, ρ26, bldV, Nat.reduceLeDiff, Int.reduceMul, Int.reduceAdd, Int.reduceSub, Int.reduceToNat, maxLen_eq, zeros_one, appS_some, appV_n, appV_v, appH_t, appH_f, Kd.isEx, ρ27, partV, CH.set_set, lkV, lkR, isKey, mupV, nxtV, ρ28, ρ29]) | (with_reducible first | refine condK_dec (fun _ => ?_) fun _ => ?_ | refine grd_dec (fun _ => ?_) fun _ => ?_ | refine egrd_dec (fun _ => ?_) fun _ => ?_))
          all_goals exact ⟨_, _, h3⟩
end Can
end Go.Proofs.Ytmglmoehlegojaa
