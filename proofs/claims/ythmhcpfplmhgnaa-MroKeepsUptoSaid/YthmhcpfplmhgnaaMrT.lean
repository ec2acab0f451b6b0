/- Mro: lists of numbers that lie; Index, Contains, tail. -/
import Derived.Test.YthmhcpfplmhgnaaMrF
import Derived.Test.YthmhcpfplmhgnaaMrK
namespace Go.Proofs.Ythmhcpfplmhgnaa
namespace Can
open Go Go.RowKit
set_option linter.unusedSimpArgs false
set_option linter.unusedVariables false
set_option maxRecDepth 4000
/-- A value reads as a list of numbers. -/
def IL (K : CH) (v : Value) (xs : List Int) : Prop := ∃ q c, v = .slice q xs.length c ∧ SlAt 1 (CInt .i64) K q c xs ∧ okSl K 3 v = true
theorem IL.ext {K K' : CH} {v : Value} {xs : List Int} (h : IL K v xs) (hx : HExt K K') : IL K' v xs := by
  obtain ⟨q, c, rfl, h, hk⟩ := h
  refine ⟨q, c, rfl, SlAt.good (CInt.good _) hx h, ?_⟩
  rcases h with ⟨rfl, _, rfl | rfl | rfl⟩ | ⟨l, o, os, e, kd, rfl, h1, _⟩
  · rfl
  · rfl
  · rfl
  · exact okSl_ext (hx.ob l h1) hk
theorem IL.wf {K : CH} {v : Value} {xs : List Int} (h : IL K v xs) : ∀ x ∈ xs, -9223372036854775808 ≤ x ∧ x ≤ 9223372036854775807 := by
  obtain ⟨q, c, rfl, h, hk⟩ := h
  rcases h with ⟨rfl, _⟩ | ⟨l, o, os, e, kd, _, _, _, _, _, _, hR⟩
  · intro x hx; cases hx
  · intro x hx
    obtain ⟨i, hi, rfl⟩ := List.getElem_of_mem hx
    exact bounds_i64 (hR i hi).2
/-- A list that is not empty: its block and its cells. -/
theorem IL.cells {K : CH} {v : Value} {xs : List Int} (h : IL K v xs) (hne : 0 < xs.length) : ∃ l o c os e kd, v = .slice (some ⟨l, o, none⟩) xs.length c ∧ l < K.nx ∧ xs.length ≤ c ∧ c ≤ maxLen ∧ K.ob l = .cells os e kd ∧ o + xs.length ≤ os.length ∧ ∀ i, i < xs.length → os[o + i]? = some (.int .i64 (xs.getD i 0)) := by
  obtain ⟨q, c, rfl, h, hk⟩ := h
  obtain ⟨l, o, os, e, kd, rfl, h1, h2, h3, h4, h5, h6, h7⟩ := h.ints hne
  exact ⟨l, o, c, os, e, kd, rfl, h1, h2, h3, h4, h5, h6⟩
theorem IL.len {K : CH} {v : Value} {xs : List Int} (h : IL K v xs) : ∃ q c, v = .slice q xs.length c ∧ xs.length ≤ c ∧ c ≤ maxLen ∧ (xs.length = 0 → c = 0 ∨ ∃ l o, q = some ⟨l, o, none⟩) := by
  obtain ⟨q, c, rfl, h, hk⟩ := h
  rcases h with ⟨rfl, rfl, _⟩ | ⟨l, o, os, e, kd, rfl, _, h2, h3, _⟩
  · exact ⟨q, 0, rfl, Nat.le_refl _, Nat.zero_le _, fun _ => .inl rfl⟩
  · exact ⟨_, c, rfl, h2, h3, fun _ => .inr ⟨l, o, rfl⟩⟩
theorem index_wp (K : CH) {v : Value} {xs : List Int} {n : Int} (h : IL K v xs) : WpF (tblG Try.prog LG GG) 21 [v, .int .i64 n] K fun r K' => r = .int .i64 (idxF n xs) ∧ K' = K := by
  obtain ⟨q, c, hv, hc, hm, _⟩ := h.len
  rw [maxLen_eq] at hm
  refine wpF_rG (by rfl) (by kernel_rfl) ?_; (conv in (rF _ _).body => reduce); (conv in (rF _ _).res => reduce)
  repeat' (first | (simp (disch := first | omega | (decide +kernel) | (repeat first | assumption | exact HExt.refl _ | refine HExt.set ?_ (by first | omega | (simp only [new_nx, set_nx]; omega)) _ | refine HExt.new ?_ _)) only [↓RD, RU, accW_t, accW_f, isW, ↓putF_get, ↓putF_none, ↓evF_t, ↓evF_c, ↓evF_f, new_nx, set_nx, new_get, set_get, getD_zero, getD_succ, u_not, pop, lop, aop, wop, resL, resV, tupleV, akV, isVal, isCell, Value.cells, ρ0, ρ1, ρ2, ρ3, ρ4, ↓reduceIte, Nat.reduceEqDiff, Nat.reduceAdd, Int.reduceOfNat, Int.reduceNegSucc, reduceCtorEq, ρ5, ρ6, ρ7, ρ8, srcR_c, src_n, src_v, src_s, bnd, lenV, capV, ρ9, ρ10, ρ11, ρ12, ρ13, ρ14, ρ15, ρ16, ρ17, ρ18, ρ19, ρ20, ρ21, ρ22, ρ23, ρ24, Kd.isRo, ρ25, ρ26, bldV, Nat.reduceLeDiff, Int.reduceMul, Int.reduceAdd, Int.reduceSub, Int.reduceToNat, maxLen_eq, zeros_one, appS_some, appV_n, appV_v, appH_t, appH_f, Kd.isEx, ρ27, partV, CH.set_set, lkV, lkR, isKey, mupV, nxtV, ρ28, ρ29, hv]) | (with_reducible first | refine condK_dec (fun _ => ?_) fun _ => ?_ | refine grd_dec (fun _ => ?_) fun _ => ?_ | refine egrd_dec (fun _ => ?_) fun _ => ?_))
  refine loop_w (fun m fr K1 => ∃ i : Nat, m = xs.length - i ∧ i ≤ xs.length ∧ fr 8 = .int .i64 (i : Nat) ∧ K1 = K ∧ ∀ j (hj : j < xs.length), j < i → xs[j] ≠ n) (n := xs.length) ⟨0, rfl, by omega, by (repeat' (first | (simp (disch := first | omega | (decide +kernel) | (repeat first | assumption | exact HExt.refl _ | refine HExt.set ?_ (by first | omega | (simp only [new_nx, set_nx]; omega)) _ | refine HExt.new ?_ _)) only [↓RD, RU, accW_t, accW_f, isW, ↓putF_get, ↓putF_none, ↓evF_t, ↓evF_c, ↓evF_f, new_nx, set_nx, new_get, set_get, getD_zero, getD_succ, u_not, pop, lop, aop, wop, resL, resV, tupleV, akV, isVal, isCell, Value.cells, ρ0, ρ1, ρ2, ρ3, ρ4, ↓reduceIte, Nat.reduceEqDiff, Nat.reduceAdd, Int.reduceOfNat, Int.reduceNegSucc, reduceCtorEq, ρ5, ρ6, ρ7, ρ8, srcR_c, src_n, src_v, src_s, bnd, lenV, capV, ρ9, ρ10, ρ11, ρ12, ρ13, ρ14, ρ15, ρ16, ρ17, ρ18, ρ19, ρ20, ρ21, ρ22, ρ23, ρ24, Kd.isRo, ρ25, ρ26, bldV, Nat.reduceLeDiff, Int.reduceMul, Int.reduceAdd, Int.reduceSub, Int.reduceToNat, maxLen_eq, zeros_one, appS_some, appV_n, appV_v, appH_t, appH_f, Kd.isEx, ρ27, partV, CH.set_set, lkV, lkR, isKey, mupV, nxtV, ρ28, ρ29]) | (with_reducible first | refine condK_dec (fun _ => ?_) fun _ => ?_ | refine grd_dec (fun _ => ?_) fun _ => ?_ | refine egrd_dec (fun _ => ?_) fun _ => ?_)); all_goals rfl), rfl, fun j _ h => absurd h (by omega)⟩ ?_
  rintro m fr K1 ⟨i, rfl, hi, f8, rfl, hn⟩ hag
  by_cases hil : i < xs.length
  · obtain ⟨l, o, c1, os, e, kd, hv2, h1, h2, h3, h4, h5, h6⟩ := h.cells (by omega)
    rw [hv] at hv2
    obtain ⟨rfl, rfl⟩ : q = some ⟨l, o, none⟩ ∧ c = c1 := by cases hv2; exact ⟨rfl, rfl⟩
    have g := h6 i hil
    rw [List.getD_eq_getElem?_getD, List.getElem?_eq_getElem hil, Option.getD_some] at g
    by_cases he : n = xs[i]
    · have hfin := idxF_at n xs i hil hn he.symm
      rw [← he] at g
      repeat' (first | (simp (disch := first | omega | (decide +kernel) | (repeat first | assumption | exact HExt.refl _ | refine HExt.set ?_ (by first | omega | (simp only [new_nx, set_nx]; omega)) _ | refine HExt.new ?_ _)) only [↓RD, RU, accW_t, accW_f, isW, ↓putF_get, ↓putF_none, ↓evF_t, ↓evF_c, ↓evF_f, new_nx, set_nx, new_get, set_get, getD_zero, getD_succ, u_not, pop, lop, aop, wop, resL, resV, tupleV, akV, isVal, isCell, Value.cells, ρ0, ρ1, ρ2, ρ3, ρ4, ↓reduceIte, Nat.reduceEqDiff, Nat.reduceAdd, Int.reduceOfNat, Int.reduceNegSucc, reduceCtorEq, ρ5, ρ6, ρ7, ρ8, srcR_c, src_n, src_v, src_s, bnd, lenV, capV, ρ9, ρ10, ρ11, ρ12, ρ13, ρ14, ρ15, ρ16, ρ17, ρ18, ρ19, ρ20, ρ21, ρ22, ρ23, ρ24, Kd.isRo, ρ25, ρ26, bldV, Nat.reduceLeDiff, Int.reduceMul, Int.reduceAdd, Int.reduceSub, Int.reduceToNat, maxLen_eq, zeros_one, appS_some, appV_n, appV_v, appH_t, appH_f, Kd.isEx, ρ27, partV, CH.set_set, lkV, lkR, isKey, mupV, nxtV, ρ28, ρ29, hag, f8, h4, g, hfin]) | (with_reducible first | refine condK_dec (fun _ => ?_) fun _ => ?_ | refine grd_dec (fun _ => ?_) fun _ => ?_ | refine egrd_dec (fun _ => ?_) fun _ => ?_))
    · repeat' (first | (simp (disch := first | omega | (decide +kernel) | (repeat first | assumption | exact HExt.refl _ | refine HExt.set ?_ (by first | omega | (simp only [new_nx, set_nx]; omega)) _ | refine HExt.new ?_ _)) only [↓RD, RU, accW_t, accW_f, isW, ↓putF_get, ↓putF_none, ↓evF_t, ↓evF_c, ↓evF_f, new_nx, set_nx, new_get, set_get, getD_zero, getD_succ, u_not, pop, lop, aop, wop, resL, resV, tupleV, akV, isVal, isCell, Value.cells, ρ0, ρ1, ρ2, ρ3, ρ4, ↓reduceIte, Nat.reduceEqDiff, Nat.reduceAdd, Int.reduceOfNat, Int.reduceNegSucc, reduceCtorEq, ρ5, ρ6, ρ7, ρ8, srcR_c, src_n, src_v, src_s, bnd, lenV, capV, ρ9, ρ10, ρ11, ρ12, ρ13, ρ14, ρ15, ρ16, ρ17, ρ18, ρ19, ρ20, ρ21, ρ22, ρ23, ρ24, Kd.isRo, ρ25, ρ26, bldV, Nat.reduceLeDiff, Int.reduceMul, Int.reduceAdd, Int.reduceSub, Int.reduceToNat, maxLen_eq, zeros_one, appS_some, appV_n, appV_v, appH_t, appH_f, Kd.isEx, ρ27, partV, CH.set_set, lkV, lkR, isKey, mupV, nxtV, ρ28, ρ29, hag, f8, h4, g, he]) | (with_reducible first | refine condK_dec (fun _ => ?_) fun _ => ?_ | refine grd_dec (fun _ => ?_) fun _ => ?_ | refine egrd_dec (fun _ => ?_) fun _ => ?_))
      all_goals exact ⟨xs.length - (i + 1), by omega, i + 1, rfl, by omega, rfl, fun j hj hji => by
        by_cases e : j = i
        · subst e; exact fun g => he g.symm
        · exact hn j hj (by omega)⟩
  · have hfin := idxF_none n xs fun j hj => hn j hj (by omega)
    repeat' (first | (simp (disch := first | omega | (decide +kernel) | (repeat first | assumption | exact HExt.refl _ | refine HExt.set ?_ (by first | omega | (simp only [new_nx, set_nx]; omega)) _ | refine HExt.new ?_ _)) only [↓RD, RU, accW_t, accW_f, isW, ↓putF_get, ↓putF_none, ↓evF_t, ↓evF_c, ↓evF_f, new_nx, set_nx, new_get, set_get, getD_zero, getD_succ, u_not, pop, lop, aop, wop, resL, resV, tupleV, akV, isVal, isCell, Value.cells, ρ0, ρ1, ρ2, ρ3, ρ4, ↓reduceIte, Nat.reduceEqDiff, Nat.reduceAdd, Int.reduceOfNat, Int.reduceNegSucc, reduceCtorEq, ρ5, ρ6, ρ7, ρ8, srcR_c, src_n, src_v, src_s, bnd, lenV, capV, ρ9, ρ10, ρ11, ρ12, ρ13, ρ14, ρ15, ρ16, ρ17, ρ18, ρ19, ρ20, ρ21, ρ22, ρ23, ρ24, Kd.isRo, ρ25, ρ26, bldV, Nat.reduceLeDiff, Int.reduceMul, Int.reduceAdd, Int.reduceSub, Int.reduceToNat, maxLen_eq, zeros_one, appS_some, appV_n, appV_v, appH_t, appH_f, Kd.isEx, ρ27, partV, CH.set_set, lkV, lkR, isKey, mupV, nxtV, ρ28, ρ29, hag, f8, hfin]) | (with_reducible first | refine condK_dec (fun _ => ?_) fun _ => ?_ | refine grd_dec (fun _ => ?_) fun _ => ?_ | refine egrd_dec (fun _ => ?_) fun _ => ?_))
theorem index_iff {K : CH} {v : Value} {xs : List Int} {n : Int} (h : IL K v xs) {Q : Value → CH → Prop} : WpF (tblG Try.prog LG GG) 21 [v, .int .i64 n] K Q ↔ Q (.int .i64 (idxF n xs)) K := wpF_iff (index_wp K h)
theorem contains_wp (K : CH) {v : Value} {xs : List Int} {n : Int} (h : IL K v xs) : WpF (tblG Try.prog LG GG) 18 [v, .int .i64 n] K fun r K' => r = .bool (hasF n xs) ∧ K' = K := by
  have hi := @index_iff K v xs n h
  have hb : hasF n xs = decide (0 ≤ idxF n xs) := rfl
  refine wpF_rG (by rfl) (by kernel_rfl) ?_; (conv in (rF _ _).body => reduce); (conv in (rF _ _).res => reduce)
  by_cases h0 : 0 ≤ idxF n xs
  · repeat' (first | (simp (disch := first | omega | (decide +kernel) | (repeat first | assumption | exact HExt.refl _ | refine HExt.set ?_ (by first | omega | (simp only [new_nx, set_nx]; omega)) _ | refine HExt.new ?_ _)) only [↓RD, RU, accW_t, accW_f, isW, ↓putF_get, ↓putF_none, ↓evF_t, ↓evF_c, ↓evF_f, new_nx, set_nx, new_get, set_get, getD_zero, getD_succ, u_not, pop, lop, aop, wop, resL, resV, tupleV, akV, isVal, isCell, Value.cells, ρ0, ρ1, ρ2, ρ3, ρ4, ↓reduceIte, Nat.reduceEqDiff, Nat.reduceAdd, Int.reduceOfNat, Int.reduceNegSucc, reduceCtorEq, ρ5, ρ6, ρ7, ρ8, srcR_c, src_n, src_v, src_s, bnd, lenV, capV, ρ9, ρ10, ρ11, ρ12, ρ13, ρ14, ρ15, ρ16, ρ17, ρ18, ρ19, ρ20, ρ21, ρ22, ρ23, ρ24, Kd.isRo, ρ25, ρ26, bldV, Nat.reduceLeDiff, Int.reduceMul, Int.reduceAdd, Int.reduceSub, Int.reduceToNat, maxLen_eq, zeros_one, appS_some, appV_n, appV_v, appH_t, appH_f, Kd.isEx, ρ27, partV, CH.set_set, lkV, lkR, isKey, mupV, nxtV, ρ28, ρ29, hi, hb, h0]) | (with_reducible first | refine condK_dec (fun _ => ?_) fun _ => ?_ | refine grd_dec (fun _ => ?_) fun _ => ?_ | refine egrd_dec (fun _ => ?_) fun _ => ?_))
  · repeat' (first | (simp (disch := first | omega | (decide +kernel) | (repeat first | assumption | exact HExt.refl _ | refine HExt.set ?_ (by first | omega | (simp only [new_nx, set_nx]; omega)) _ | refine HExt.new ?_ _)) only [↓RD, RU, accW_t, accW_f, isW, ↓putF_get, ↓putF_none, ↓evF_t, ↓evF_c, ↓evF_f, new_nx, set_nx, new_get, set_get, getD_zero, getD_succ, u_not, pop, lop, aop, wop, resL, resV, tupleV, akV, isVal, isCell, Value.cells, ρ0, ρ1, ρ2, ρ3, ρ4, ↓reduceIte, Nat.reduceEqDiff, Nat.reduceAdd, Int.reduceOfNat, Int.reduceNegSucc, reduceCtorEq, ρ5, ρ6, ρ7, ρ8, srcR_c, src_n, src_v, src_s, bnd, lenV, capV, ρ9, ρ10, ρ11, ρ12, ρ13, ρ14, ρ15, ρ16, ρ17, ρ18, ρ19, ρ20, ρ21, ρ22, ρ23, ρ24, Kd.isRo, ρ25, ρ26, bldV, Nat.reduceLeDiff, Int.reduceMul, Int.reduceAdd, Int.reduceSub, Int.reduceToNat, maxLen_eq, zeros_one, appS_some, appV_n, appV_v, appH_t, appH_f, Kd.isEx, ρ27, partV, CH.set_set, lkV, lkR, isKey, mupV, nxtV, ρ28, ρ29, hi, hb, h0]) | (with_reducible first | refine condK_dec (fun _ => ?_) fun _ => ?_ | refine grd_dec (fun _ => ?_) fun _ => ?_ | refine egrd_dec (fun _ => ?_) fun _ => ?_))
theorem contains_iff {K : CH} {v : Value} {xs : List Int} {n : Int} (h : IL K v xs) {Q : Value → CH → Prop} : WpF (tblG Try.prog LG GG) 18 [v, .int .i64 n] K Q ↔ Q (.bool (hasF n xs)) K := wpF_iff (contains_wp K h)
theorem low1 {l o n c : Nat} (h1 : 1 ≤ n) (h2 : n ≤ c) : sliceV 1 (.slice (some ⟨l, o, none⟩) n c) 1 n c false = some (.slice (some ⟨l, o + 1, none⟩) (n - 1) (c - 1)) := by
  unfold sliceV
  simp only [Bool.false_eq_true, if_false]
  rw [if_pos (by omega)]
  by_cases e : (1 : Int) = c
  · rw [if_pos e]
    have h3 : c = 1 := by omega
    have h4 : n = 1 := by omega
    subst h3 h4; rfl
  · rw [if_neg e]
    have e1 : ((n : Int) - 1).toNat = n - 1 := by omega
    have e2 : ((c : Int) - 1).toNat = c - 1 := by omega
    rw [e1, e2]; rfl
/-- A list but for its head. -/
theorem IL.tail {K : CH} {v : Value} {x : Int} {xs : List Int} (h : IL K v (x :: xs)) : ∃ l o c os e kd, v = .slice (some ⟨l, o, none⟩) (xs.length + 1) c ∧ K.ob l = .cells os e kd ∧ l < K.nx ∧ o + 1 ≤ os.length ∧ os[o]? = some (.int .i64 x) ∧ xs.length + 1 ≤ c ∧ c ≤ maxLen ∧ okSl K 3 v = true ∧ sliceV 1 v 1 (xs.length + 1 : Nat) c false = some (.slice (some ⟨l, o + 1, none⟩) xs.length (c - 1)) ∧ IL K (.slice (some ⟨l, o + 1, none⟩) xs.length (c - 1)) xs := by
  obtain ⟨q, c, rfl, h, hk⟩ := h
  rcases h with ⟨h0, _⟩ | ⟨l, o, os, e, kd, rfl, h1, h2, h3, h4, h5, h6⟩
  · cases h0
  · simp only [List.length_cons, Nat.mul_one] at h2 h5 h6 ⊢
    have g0 := (h6 0 (by simp)).1
    rw [Nat.add_zero, List.drop_eq_getElem_cons (by omega)] at g0
    simp only [List.take_succ_cons, List.take_zero, List.cons.injEq, and_true, List.getElem_cons_zero] at g0
    refine ⟨l, o, c, os, e, kd, rfl, h4, h1, by omega, by rw [List.getElem?_eq_getElem (by omega), g0], h2, h3, hk, low1 (by omega) h2, _, _, rfl, .inr ⟨l, o + 1, os, e, kd, rfl, h1, by omega, by omega, h4, by omega, fun i hi => ?_⟩, okSl_ext rfl hk⟩
    have := h6 (i + 1) (by simp; omega)
    rw [show o + 1 + i * 1 = o + (i + 1) by omega]
    simpa using this
theorem IL.nil0 {K : CH} {v : Value} (h : IL K v []) : ∃ q c, v = .slice q 0 c := by
  obtain ⟨q, c, rfl, _⟩ := h
  exact ⟨q, c, rfl⟩
theorem tail_wp (K : CH) {v : Value} {xs : List Int} {n : Int} (h : IL K v xs) : WpF (tblG Try.prog LG GG) 22 [v, .int .i64 n] K fun r K' => r = .bool (tailF xs n) ∧ K' = K := by
  cases xs with
  | nil =>
    obtain ⟨q, c, rfl⟩ := h.nil0
    refine wpF_rG (by rfl) (by kernel_rfl) ?_; (conv in (rF _ _).body => reduce); (conv in (rF _ _).res => reduce)
    repeat' (first | (simp (disch := first | omega | (decide +kernel) | (repeat first | assumption | exact HExt.refl _ | refine HExt.set ?_ (by first | omega | (simp only [new_nx, set_nx]; omega)) _ | refine HExt.new ?_ _)) only [↓RD, RU, accW_t, accW_f, isW, ↓putF_get, ↓putF_none, ↓evF_t, ↓evF_c, ↓evF_f, new_nx, set_nx, new_get, set_get, getD_zero, getD_succ, u_not, pop, lop, aop, wop, resL, resV, tupleV, akV, isVal, isCell, Value.cells, ρ0, ρ1, ρ2, ρ3, ρ4, ↓reduceIte, Nat.reduceEqDiff, Nat.reduceAdd, Int.reduceOfNat, Int.reduceNegSucc, reduceCtorEq, ρ5, ρ6, ρ7, ρ8, srcR_c, src_n, src_v, src_s, bnd, lenV, capV, ρ9, ρ10, ρ11, ρ12, ρ13, ρ14, ρ15, ρ16, ρ17, ρ18, ρ19, ρ20, ρ21, ρ22, ρ23, ρ24, Kd.isRo, ρ25, ρ26, bldV, Nat.reduceLeDiff, Int.reduceMul, Int.reduceAdd, Int.reduceSub, Int.reduceToNat, maxLen_eq, zeros_one, appS_some, appV_n, appV_v, appH_t, appH_f, Kd.isEx, ρ27, partV, CH.set_set, lkV, lkR, isKey, mupV, nxtV, ρ28, ρ29]) | (with_reducible first | refine condK_dec (fun _ => ?_) fun _ => ?_ | refine grd_dec (fun _ => ?_) fun _ => ?_ | refine egrd_dec (fun _ => ?_) fun _ => ?_))
    all_goals exact rfl
  | cons x xs =>
    obtain ⟨l, o, c, os, e, kd, rfl, h1, h2, h3, h4, h5, h6, hok, h7, h8⟩ := h.tail
    have hc := fun Q => @contains_iff K _ _ n h8 Q
    have ht : tailF (x :: xs) n = hasF n xs := rfl
    refine wpF_rG (by rfl) (by kernel_rfl) ?_; (conv in (rF _ _).body => reduce); (conv in (rF _ _).res => reduce)
    repeat' (first | (simp (disch := first | omega | (decide +kernel) | (repeat first | assumption | exact HExt.refl _ | refine HExt.set ?_ (by first | omega | (simp only [new_nx, set_nx]; omega)) _ | refine HExt.new ?_ _)) only [↓RD, RU, accW_t, accW_f, isW, ↓putF_get, ↓putF_none, ↓evF_t, ↓evF_c, ↓evF_f, new_nx, set_nx, new_get, set_get, getD_zero, getD_succ, u_not, pop, lop, aop, wop, resL, resV, tupleV, akV, isVal, isCell, Value.cells, ρ0, ρ1, ρ2, ρ3, ρ4, ↓reduceIte, Nat.reduceEqDiff, Nat.reduceAdd, Int.reduceOfNat, Int.reduceNegSucc, reduceCtorEq, ρ5, ρ6, ρ7, ρ8, srcR_c, src_n, src_v, src_s, bnd, lenV, capV, ρ9, ρ10, ρ11, ρ12, ρ13, ρ14, ρ15, ρ16, ρ17, ρ18, ρ19, ρ20, ρ21, ρ22, ρ23, ρ24, Kd.isRo, ρ25, ρ26, bldV, Nat.reduceLeDiff, Int.reduceMul, Int.reduceAdd, Int.reduceSub, Int.reduceToNat, maxLen_eq, zeros_one, appS_some, appV_n, appV_v, appH_t, appH_f, Kd.isEx, ρ27, partV, CH.set_set, lkV, lkR, isKey, mupV, nxtV, ρ28, ρ29, h7, hok, hc, ht]) | (with_reducible first | refine condK_dec (fun _ => ?_) fun _ => ?_ | refine grd_dec (fun _ => ?_) fun _ => ?_ | refine egrd_dec (fun _ => ?_) fun _ => ?_))
theorem tail_iff {K : CH} {v : Value} {xs : List Int} {n : Int} (h : IL K v xs) {Q : Value → CH → Prop} : WpF (tblG Try.prog LG GG) 22 [v, .int .i64 n] K Q ↔ Q (.bool (tailF xs n)) K := wpF_iff (tail_wp K h)
end Can
end Go.Proofs.Ythmhcpfplmhgnaa
