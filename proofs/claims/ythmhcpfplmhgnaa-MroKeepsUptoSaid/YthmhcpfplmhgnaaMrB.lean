/- Mro: rows of lists that lie; fits. -/
import Derived.Test.YthmhcpfplmhgnaaMrM
namespace Go.Proofs.Ythmhcpfplmhgnaa
namespace Can
open Go Go.RowKit
set_option linter.unusedSimpArgs false
set_option linter.unusedVariables false
set_option maxRecDepth 4000
def CIL : CRep (List Int) := fun H cs xs => ∃ u, cs = [u] ∧ IL H u xs
def BsAt (K : CH) (v : Value) (bs : List (List Int)) : Prop := ∃ q c, v = .slice q bs.length c ∧ SlAt 1 CIL K q c bs
theorem CIL.good : CGood CIL := fun _ _ _ _ hx h => by
  obtain ⟨u, e, h⟩ := h
  exact ⟨u, e, h.ext hx⟩
theorem BsAt.ext {K K' : CH} {v : Value} {bs : List (List Int)} (h : BsAt K v bs) (hx : HExt K K') : BsAt K' v bs := by
  obtain ⟨q, c, rfl, h⟩ := h
  exact ⟨q, c, rfl, SlAt.good CIL.good hx h⟩
theorem BsAt.len {K : CH} {v : Value} {bs : List (List Int)} (h : BsAt K v bs) : ∃ q c, v = .slice q bs.length c ∧ bs.length ≤ c ∧ c ≤ maxLen := by
  obtain ⟨q, c, rfl, h⟩ := h
  rcases h with ⟨rfl, rfl, _⟩ | ⟨l, o, os, e, kd, rfl, _, h2, h3, _⟩
  · exact ⟨q, 0, rfl, Nat.le_refl _, Nat.zero_le _⟩
  · exact ⟨_, c, rfl, h2, h3⟩
theorem BsAt.get {K : CH} {v : Value} {bs : List (List Int)} (h : BsAt K v bs) {i : Nat} (hi : i < bs.length) : ∃ l o c os e kd u, v = .slice (some ⟨l, o, none⟩) bs.length c ∧ l < K.nx ∧ bs.length ≤ c ∧ c ≤ maxLen ∧ K.ob l = .cells os e kd ∧ o + bs.length ≤ os.length ∧ os[o + i]? = some u ∧ IL K u bs[i] := by
  obtain ⟨q, c, rfl, h⟩ := h
  rcases h with ⟨rfl, rfl, _⟩ | ⟨l, o, os, e, kd, rfl, h1, h2, h3, h4, h5, h6⟩
  · cases hi
  · obtain ⟨u, g1, g2⟩ := h6 i hi
    simp only [Nat.mul_one] at g1 h5
    rw [List.drop_eq_getElem_cons (by omega)] at g1
    simp only [List.take_succ_cons, List.take_zero, List.cons.injEq, and_true] at g1
    exact ⟨l, o, c, os, e, kd, u, rfl, h1, h2, h3, h4, h5, by rw [List.getElem?_eq_getElem (by omega), g1], g2⟩
/-- The beginning of a list. -/
theorem IL.take {K : CH} {v : Value} {xs : List Int} (h : IL K v xs) (hne : 0 < xs.length) {i : Nat} (hi : i ≤ xs.length) : ∃ l o c, v = .slice (some ⟨l, o, none⟩) xs.length c ∧ xs.length ≤ c ∧ okSl K 3 v = true ∧ sliceV 1 v ((0 : Nat) : Int) i c false = some (.slice (some ⟨l, o, none⟩) i c) ∧ IL K (.slice (some ⟨l, o, none⟩) i c) (xs.take i) := by
  obtain ⟨q, c, rfl, h, hk⟩ := h
  rcases h with ⟨rfl, _⟩ | ⟨l, o, os, e, kd, rfl, h1, h2, h3, h4, h5, h6⟩
  · cases hne
  · refine ⟨l, o, c, rfl, h2, hk, ?_, _, _, by rw [List.length_take, Nat.min_eq_left hi], .inr ⟨l, o, os, e, kd, rfl, h1, by simp; omega, h3, h4, by simp; omega, fun j hj => ?_⟩, okSl_ext rfl hk⟩
    · unfold sliceV
      simp only [Bool.false_eq_true, if_false]
      rw [if_pos (by omega), if_neg (by omega)]
      have e1 : ((i : Int) - ((0 : Nat) : Int)).toNat = i := by omega
      have e2 : ((c : Int) - ((0 : Nat) : Int)).toNat = c := by omega
      rw [e1, e2]; rfl
    · have hj' : j < xs.length := by simp at hj; omega
      have := h6 j hj'
      rw [List.getElem_take]; exact this
def FtJ (bs : List (List Int)) (K0 : CH) (n : Nat) (v9 : Value) (K : CH) : Prop := ∃ k : Nat, n = bs.length - k ∧ k ≤ bs.length ∧ v9 = .int .i64 (k : Nat) ∧ K = K0 ∧ ∀ j (hj : j < bs.length), j < k → GoodRow j bs[j]
def FiJ (row : List Int) (k : Nat) (K0 : CH) (n : Nat) (v16 : Value) (K : CH) : Prop := ∃ i : Nat, n = row.length - i ∧ i ≤ row.length ∧ v16 = .int .i64 (i : Nat) ∧ K = K0 ∧ ∀ j (hj : j < row.length), j < i → 0 ≤ row[j] ∧ row[j] < k ∧ row[j] ∉ row.take j
theorem fits_wp (K : CH) {v : Value} {bs : List (List Int)} (h : BsAt K v bs) : WpF (tblG Try.prog LG GG) 14 [v] K fun r K' => (∃ b : Bool, r = .bool b ∧ (b = true ↔ Fits bs)) ∧ K' = K := by
  obtain ⟨q, c, hv, hc, hm⟩ := h.len
  rw [maxLen_eq] at hm
  refine wpF_rG (by rfl) (by kernel_rfl) ?_; (conv in (rF _ _).body => reduce); (conv in (rF _ _).res => reduce)
  repeat' (first | (simp (disch := first | omega | (decide +kernel) | (repeat first | assumption | exact HExt.refl _ | refine HExt.set ?_ (by first | omega | (simp only [new_nx, set_nx]; omega)) _ | refine HExt.new ?_ _)) only [↓RD, RU, accW_t, accW_f, isW, ↓putF_get, ↓putF_none, ↓evF_t, ↓evF_c, ↓evF_f, new_nx, set_nx, new_get, set_get, getD_zero, getD_succ, u_not, pop, lop, aop, wop, resL, resV, tupleV, akV, isVal, isCell, Value.cells, ρ0, ρ1, ρ2, ρ3, ρ4, ↓reduceIte, Nat.reduceEqDiff, Nat.reduceAdd, Int.reduceOfNat, Int.reduceNegSucc, reduceCtorEq, ρ5, ρ6, ρ7, ρ8, srcR_c, src_n, src_v, src_s, bnd, lenV, capV, ρ9, ρ10, ρ11, ρ12, ρ13, ρ14, ρ15, ρ16, ρ17, ρ18, ρ19, ρ20, ρ21, ρ22, ρ23, ρ24, Kd.isRo, ρ25, ρ26, bldV, Nat.reduceLeDiff, Int.reduceMul, Int.reduceAdd, Int.reduceSub, Int.reduceToNat, maxLen_eq, zeros_one, appS_some, appV_n, appV_v, appH_t, appH_f, Kd.isEx, ρ27, partV, CH.set_set, lkV, lkR, isKey, mupV, nxtV, ρ28, ρ29, hv]) | (with_reducible first | refine condK_dec (fun _ => ?_) fun _ => ?_ | refine grd_dec (fun _ => ?_) fun _ => ?_ | refine egrd_dec (fun _ => ?_) fun _ => ?_))
  refine loop_w (fun n fr K' => FtJ bs K n (fr 9) K') (n := bs.length) ⟨0, rfl, Nat.zero_le _, by (repeat' (first | (simp (disch := first | omega | (decide +kernel) | (repeat first | assumption | exact HExt.refl _ | refine HExt.set ?_ (by first | omega | (simp only [new_nx, set_nx]; omega)) _ | refine HExt.new ?_ _)) only [↓RD, RU, accW_t, accW_f, isW, ↓putF_get, ↓putF_none, ↓evF_t, ↓evF_c, ↓evF_f, new_nx, set_nx, new_get, set_get, getD_zero, getD_succ, u_not, pop, lop, aop, wop, resL, resV, tupleV, akV, isVal, isCell, Value.cells, ρ0, ρ1, ρ2, ρ3, ρ4, ↓reduceIte, Nat.reduceEqDiff, Nat.reduceAdd, Int.reduceOfNat, Int.reduceNegSucc, reduceCtorEq, ρ5, ρ6, ρ7, ρ8, srcR_c, src_n, src_v, src_s, bnd, lenV, capV, ρ9, ρ10, ρ11, ρ12, ρ13, ρ14, ρ15, ρ16, ρ17, ρ18, ρ19, ρ20, ρ21, ρ22, ρ23, ρ24, Kd.isRo, ρ25, ρ26, bldV, Nat.reduceLeDiff, Int.reduceMul, Int.reduceAdd, Int.reduceSub, Int.reduceToNat, maxLen_eq, zeros_one, appS_some, appV_n, appV_v, appH_t, appH_f, Kd.isEx, ρ27, partV, CH.set_set, lkV, lkR, isKey, mupV, nxtV, ρ28, ρ29]) | (with_reducible first | refine condK_dec (fun _ => ?_) fun _ => ?_ | refine grd_dec (fun _ => ?_) fun _ => ?_ | refine egrd_dec (fun _ => ?_) fun _ => ?_)); all_goals rfl), rfl, fun j hj h => absurd h (by omega)⟩ ?_
  rintro n fr K1 ⟨k, rfl, hk, f9, rfl, hgood⟩ hag
  by_cases hkl : k < bs.length
  · obtain ⟨l, o, c1, os, e, kd, u, hv2, h1, h2, h3, h4, h5, h6, h7⟩ := h.get hkl
    rw [hv] at hv2
    obtain ⟨rfl, rfl⟩ : q = some ⟨l, o, none⟩ ∧ c = c1 := by cases hv2; exact ⟨rfl, rfl⟩
    obtain ⟨q2, c2, hu, hc2, hm2, _⟩ := h7.len
    rw [maxLen_eq] at hm2
    obtain ⟨row, hrow⟩ : ∃ row, bs[k] = row := ⟨_, rfl⟩
    rw [hrow] at h7 hu hc2
    repeat' (first | (simp (disch := first | omega | (decide +kernel) | (repeat first | assumption | exact HExt.refl _ | refine HExt.set ?_ (by first | omega | (simp only [new_nx, set_nx]; omega)) _ | refine HExt.new ?_ _)) only [↓RD, RU, accW_t, accW_f, isW, ↓putF_get, ↓putF_none, ↓evF_t, ↓evF_c, ↓evF_f, new_nx, set_nx, new_get, set_get, getD_zero, getD_succ, u_not, pop, lop, aop, wop, resL, resV, tupleV, akV, isVal, isCell, Value.cells, ρ0, ρ1, ρ2, ρ3, ρ4, ↓reduceIte, Nat.reduceEqDiff, Nat.reduceAdd, Int.reduceOfNat, Int.reduceNegSucc, reduceCtorEq, ρ5, ρ6, ρ7, ρ8, srcR_c, src_n, src_v, src_s, bnd, lenV, capV, ρ9, ρ10, ρ11, ρ12, ρ13, ρ14, ρ15, ρ16, ρ17, ρ18, ρ19, ρ20, ρ21, ρ22, ρ23, ρ24, Kd.isRo, ρ25, ρ26, bldV, Nat.reduceLeDiff, Int.reduceMul, Int.reduceAdd, Int.reduceSub, Int.reduceToNat, maxLen_eq, zeros_one, appS_some, appV_n, appV_v, appH_t, appH_f, Kd.isEx, ρ27, partV, CH.set_set, lkV, lkR, isKey, mupV, nxtV, ρ28, ρ29, hag, f9, h4, h6, hu]) | (with_reducible first | refine condK_dec (fun _ => ?_) fun _ => ?_ | refine grd_dec (fun _ => ?_) fun _ => ?_ | refine egrd_dec (fun _ => ?_) fun _ => ?_))
    refine loop_w (fun n fr K' => FiJ row k K1 n (fr 16) K') (n := row.length) ⟨0, rfl, Nat.zero_le _, by (repeat' (first | (simp (disch := first | omega | (decide +kernel) | (repeat first | assumption | exact HExt.refl _ | refine HExt.set ?_ (by first | omega | (simp only [new_nx, set_nx]; omega)) _ | refine HExt.new ?_ _)) only [↓RD, RU, accW_t, accW_f, isW, ↓putF_get, ↓putF_none, ↓evF_t, ↓evF_c, ↓evF_f, new_nx, set_nx, new_get, set_get, getD_zero, getD_succ, u_not, pop, lop, aop, wop, resL, resV, tupleV, akV, isVal, isCell, Value.cells, ρ0, ρ1, ρ2, ρ3, ρ4, ↓reduceIte, Nat.reduceEqDiff, Nat.reduceAdd, Int.reduceOfNat, Int.reduceNegSucc, reduceCtorEq, ρ5, ρ6, ρ7, ρ8, srcR_c, src_n, src_v, src_s, bnd, lenV, capV, ρ9, ρ10, ρ11, ρ12, ρ13, ρ14, ρ15, ρ16, ρ17, ρ18, ρ19, ρ20, ρ21, ρ22, ρ23, ρ24, Kd.isRo, ρ25, ρ26, bldV, Nat.reduceLeDiff, Int.reduceMul, Int.reduceAdd, Int.reduceSub, Int.reduceToNat, maxLen_eq, zeros_one, appS_some, appV_n, appV_v, appH_t, appH_f, Kd.isEx, ρ27, partV, CH.set_set, lkV, lkR, isKey, mupV, nxtV, ρ28, ρ29]) | (with_reducible first | refine condK_dec (fun _ => ?_) fun _ => ?_ | refine grd_dec (fun _ => ?_) fun _ => ?_ | refine egrd_dec (fun _ => ?_) fun _ => ?_)); all_goals rfl), rfl, fun j hj h => absurd h (by omega)⟩ ?_
    rintro n fr2 K2 ⟨i, rfl, hi, f16, rfl, hok⟩ hag2
    by_cases hil : i < row.length
    · obtain ⟨l3, o3, c3, os3, e3, kd3, hu3, p1, p2, p3, p4, p5, p6⟩ := h7.cells (by omega)
      rw [hu] at hu3
      obtain ⟨rfl, rfl⟩ : q2 = some ⟨l3, o3, none⟩ ∧ c2 = c3 := by cases hu3; exact ⟨rfl, rfl⟩
      have g := p6 i hil
      rw [List.getD_eq_getElem?_getD, List.getElem?_eq_getElem hil, Option.getD_some] at g
      obtain ⟨x, hx⟩ : ∃ x, row[i] = x := ⟨_, rfl⟩
      rw [hx] at g
      have hbad : ∀ (b : Bool), (b = true ↔ x < 0 ∨ (k : Int) ≤ x ∨ x ∈ row.take i) → b = true → ¬ Fits bs := fun b hb1 hb2 hf => by
        have g1 := hf k hkl
        rw [hrow] at g1
        have hxr : x ∈ row := by rw [← hx]; exact List.getElem_mem _
        rcases hb1.1 hb2 with e | e | e
        · have := (g1.2 x hxr).1; omega
        · have := (g1.2 x hxr).2; omega
        · exact nodup_take g1.1 i hil (by rw [hx]; exact e)
      obtain ⟨l4, o4, c4, hu4, r1, r2, r3, r4⟩ := h7.take (by omega) (Nat.le_of_lt hil)
      rw [hu] at hu4 r2 r3
      obtain ⟨rfl, rfl, rfl⟩ : l3 = l4 ∧ o3 = o4 ∧ c2 = c4 := by cases hu4; exact ⟨rfl, rfl, rfl⟩
      have hct := fun Q => @contains_iff K2 _ _ x r4 Q
      by_cases x0 : x < 0
      · repeat' (first | (simp (disch := first | omega | (decide +kernel) | (repeat first | assumption | exact HExt.refl _ | refine HExt.set ?_ (by first | omega | (simp only [new_nx, set_nx]; omega)) _ | refine HExt.new ?_ _)) only [↓RD, RU, accW_t, accW_f, isW, ↓putF_get, ↓putF_none, ↓evF_t, ↓evF_c, ↓evF_f, new_nx, set_nx, new_get, set_get, getD_zero, getD_succ, u_not, pop, lop, aop, wop, resL, resV, tupleV, akV, isVal, isCell, Value.cells, ρ0, ρ1, ρ2, ρ3, ρ4, ↓reduceIte, Nat.reduceEqDiff, Nat.reduceAdd, Int.reduceOfNat, Int.reduceNegSucc, reduceCtorEq, ρ5, ρ6, ρ7, ρ8, srcR_c, src_n, src_v, src_s, bnd, lenV, capV, ρ9, ρ10, ρ11, ρ12, ρ13, ρ14, ρ15, ρ16, ρ17, ρ18, ρ19, ρ20, ρ21, ρ22, ρ23, ρ24, Kd.isRo, ρ25, ρ26, bldV, Nat.reduceLeDiff, Int.reduceMul, Int.reduceAdd, Int.reduceSub, Int.reduceToNat, maxLen_eq, zeros_one, appS_some, appV_n, appV_v, appH_t, appH_f, Kd.isEx, ρ27, partV, CH.set_set, lkV, lkR, isKey, mupV, nxtV, ρ28, ρ29, hag, hag2, f9, f16, p4, g, x0]) | (with_reducible first | refine condK_dec (fun _ => ?_) fun _ => ?_ | refine grd_dec (fun _ => ?_) fun _ => ?_ | refine egrd_dec (fun _ => ?_) fun _ => ?_))
        all_goals exact ⟨false, rfl, fun h => absurd h (by decide), fun hf => absurd hf (hbad true (by simp [x0]) rfl)⟩
      · by_cases xk : (k : Int) ≤ x
        · repeat' (first | (simp (disch := first | omega | (decide +kernel) | (repeat first | assumption | exact HExt.refl _ | refine HExt.set ?_ (by first | omega | (simp only [new_nx, set_nx]; omega)) _ | refine HExt.new ?_ _)) only [↓RD, RU, accW_t, accW_f, isW, ↓putF_get, ↓putF_none, ↓evF_t, ↓evF_c, ↓evF_f, new_nx, set_nx, new_get, set_get, getD_zero, getD_succ, u_not, pop, lop, aop, wop, resL, resV, tupleV, akV, isVal, isCell, Value.cells, ρ0, ρ1, ρ2, ρ3, ρ4, ↓reduceIte, Nat.reduceEqDiff, Nat.reduceAdd, Int.reduceOfNat, Int.reduceNegSucc, reduceCtorEq, ρ5, ρ6, ρ7, ρ8, srcR_c, src_n, src_v, src_s, bnd, lenV, capV, ρ9, ρ10, ρ11, ρ12, ρ13, ρ14, ρ15, ρ16, ρ17, ρ18, ρ19, ρ20, ρ21, ρ22, ρ23, ρ24, Kd.isRo, ρ25, ρ26, bldV, Nat.reduceLeDiff, Int.reduceMul, Int.reduceAdd, Int.reduceSub, Int.reduceToNat, maxLen_eq, zeros_one, appS_some, appV_n, appV_v, appH_t, appH_f, Kd.isEx, ρ27, partV, CH.set_set, lkV, lkR, isKey, mupV, nxtV, ρ28, ρ29, hag, hag2, f9, f16, p4, g, x0, xk]) | (with_reducible first | refine condK_dec (fun _ => ?_) fun _ => ?_ | refine grd_dec (fun _ => ?_) fun _ => ?_ | refine egrd_dec (fun _ => ?_) fun _ => ?_))
          all_goals exact ⟨false, rfl, fun h => absurd h (by decide), fun hf => absurd hf (hbad true (by simp [xk]) rfl)⟩
        · by_cases xm : hasF x (row.take i) = true
          · repeat' (first | (simp (disch := first | omega | (decide +kernel) | (repeat first | assumption | exact HExt.refl _ | refine HExt.set ?_ (by first | omega | (simp only [new_nx, set_nx]; omega)) _ | refine HExt.new ?_ _)) only [↓RD, RU, accW_t, accW_f, isW, ↓putF_get, ↓putF_none, ↓evF_t, ↓evF_c, ↓evF_f, new_nx, set_nx, new_get, set_get, getD_zero, getD_succ, u_not, pop, lop, aop, wop, resL, resV, tupleV, akV, isVal, isCell, Value.cells, ρ0, ρ1, ρ2, ρ3, ρ4, ↓reduceIte, Nat.reduceEqDiff, Nat.reduceAdd, Int.reduceOfNat, Int.reduceNegSucc, reduceCtorEq, ρ5, ρ6, ρ7, ρ8, srcR_c, src_n, src_v, src_s, bnd, lenV, capV, ρ9, ρ10, ρ11, ρ12, ρ13, ρ14, ρ15, ρ16, ρ17, ρ18, ρ19, ρ20, ρ21, ρ22, ρ23, ρ24, Kd.isRo, ρ25, ρ26, bldV, Nat.reduceLeDiff, Int.reduceMul, Int.reduceAdd, Int.reduceSub, Int.reduceToNat, maxLen_eq, zeros_one, appS_some, appV_n, appV_v, appH_t, appH_f, Kd.isEx, ρ27, partV, CH.set_set, lkV, lkR, isKey, mupV, nxtV, ρ28, ρ29, hag, hag2, f9, f16, p4, g, x0, xk, r2, r3, hct, xm]) | (with_reducible first | refine condK_dec (fun _ => ?_) fun _ => ?_ | refine grd_dec (fun _ => ?_) fun _ => ?_ | refine egrd_dec (fun _ => ?_) fun _ => ?_))
            all_goals exact ⟨false, rfl, fun h => absurd h (by decide), fun hf => absurd hf (hbad true (by simp [(hasF_iff x (row.take i)).1 xm]) rfl)⟩
          · have xm' : hasF x (row.take i) = false := by simpa using xm
            repeat' (first | (simp (disch := first | omega | (decide +kernel) | (repeat first | assumption | exact HExt.refl _ | refine HExt.set ?_ (by first | omega | (simp only [new_nx, set_nx]; omega)) _ | refine HExt.new ?_ _)) only [↓RD, RU, accW_t, accW_f, isW, ↓putF_get, ↓putF_none, ↓evF_t, ↓evF_c, ↓evF_f, new_nx, set_nx, new_get, set_get, getD_zero, getD_succ, u_not, pop, lop, aop, wop, resL, resV, tupleV, akV, isVal, isCell, Value.cells, ρ0, ρ1, ρ2, ρ3, ρ4, ↓reduceIte, Nat.reduceEqDiff, Nat.reduceAdd, Int.reduceOfNat, Int.reduceNegSucc, reduceCtorEq, ρ5, ρ6, ρ7, ρ8, srcR_c, src_n, src_v, src_s, bnd, lenV, capV, ρ9, ρ10, ρ11, ρ12, ρ13, ρ14, ρ15, ρ16, ρ17, ρ18, ρ19, ρ20, ρ21, ρ22, ρ23, ρ24, Kd.isRo, ρ25, ρ26, bldV, Nat.reduceLeDiff, Int.reduceMul, Int.reduceAdd, Int.reduceSub, Int.reduceToNat, maxLen_eq, zeros_one, appS_some, appV_n, appV_v, appH_t, appH_f, Kd.isEx, ρ27, partV, CH.set_set, lkV, lkR, isKey, mupV, nxtV, ρ28, ρ29, hag, hag2, f9, f16, p4, g, x0, xk, r2, r3, hct, xm']) | (with_reducible first | refine condK_dec (fun _ => ?_) fun _ => ?_ | refine grd_dec (fun _ => ?_) fun _ => ?_ | refine egrd_dec (fun _ => ?_) fun _ => ?_))
            all_goals exact ⟨row.length - (i + 1), by omega, i + 1, rfl, by omega, rfl, rfl, fun j hj hji => by
              by_cases e : j = i
              · subst e
                rw [hx]
                exact ⟨by omega, by omega, fun hm => xm ((hasF_iff _ _).2 hm)⟩
              · exact hok j hj (by omega)⟩
    · have hgr : GoodRow k row := ⟨nodup_of_take fun j hj => (hok j hj (by omega)).2.2, fun x hx => by
        obtain ⟨j, hj, rfl⟩ := List.getElem_of_mem hx
        exact ⟨(hok j hj (by omega)).1, (hok j hj (by omega)).2.1⟩⟩
      repeat' (first | (simp (disch := first | omega | (decide +kernel) | (repeat first | assumption | exact HExt.refl _ | refine HExt.set ?_ (by first | omega | (simp only [new_nx, set_nx]; omega)) _ | refine HExt.new ?_ _)) only [↓RD, RU, accW_t, accW_f, isW, ↓putF_get, ↓putF_none, ↓evF_t, ↓evF_c, ↓evF_f, new_nx, set_nx, new_get, set_get, getD_zero, getD_succ, u_not, pop, lop, aop, wop, resL, resV, tupleV, akV, isVal, isCell, Value.cells, ρ0, ρ1, ρ2, ρ3, ρ4, ↓reduceIte, Nat.reduceEqDiff, Nat.reduceAdd, Int.reduceOfNat, Int.reduceNegSucc, reduceCtorEq, ρ5, ρ6, ρ7, ρ8, srcR_c, src_n, src_v, src_s, bnd, lenV, capV, ρ9, ρ10, ρ11, ρ12, ρ13, ρ14, ρ15, ρ16, ρ17, ρ18, ρ19, ρ20, ρ21, ρ22, ρ23, ρ24, Kd.isRo, ρ25, ρ26, bldV, Nat.reduceLeDiff, Int.reduceMul, Int.reduceAdd, Int.reduceSub, Int.reduceToNat, maxLen_eq, zeros_one, appS_some, appV_n, appV_v, appH_t, appH_f, Kd.isEx, ρ27, partV, CH.set_set, lkV, lkR, isKey, mupV, nxtV, ρ28, ρ29, hag, hag2, f9, f16]) | (with_reducible first | refine condK_dec (fun _ => ?_) fun _ => ?_ | refine grd_dec (fun _ => ?_) fun _ => ?_ | refine egrd_dec (fun _ => ?_) fun _ => ?_))
      all_goals exact ⟨bs.length - (k + 1), by omega, k + 1, rfl, hkl, rfl, rfl, fun j hj hjk => by
        by_cases e : j = k
        · subst e; rw [hrow]; exact hgr
        · exact hgood j hj (by omega)⟩
  · have hf : Fits bs := fun j hj => hgood j hj (by omega)
    repeat' (first | (simp (disch := first | omega | (decide +kernel) | (repeat first | assumption | exact HExt.refl _ | refine HExt.set ?_ (by first | omega | (simp only [new_nx, set_nx]; omega)) _ | refine HExt.new ?_ _)) only [↓RD, RU, accW_t, accW_f, isW, ↓putF_get, ↓putF_none, ↓evF_t, ↓evF_c, ↓evF_f, new_nx, set_nx, new_get, set_get, getD_zero, getD_succ, u_not, pop, lop, aop, wop, resL, resV, tupleV, akV, isVal, isCell, Value.cells, ρ0, ρ1, ρ2, ρ3, ρ4, ↓reduceIte, Nat.reduceEqDiff, Nat.reduceAdd, Int.reduceOfNat, Int.reduceNegSucc, reduceCtorEq, ρ5, ρ6, ρ7, ρ8, srcR_c, src_n, src_v, src_s, bnd, lenV, capV, ρ9, ρ10, ρ11, ρ12, ρ13, ρ14, ρ15, ρ16, ρ17, ρ18, ρ19, ρ20, ρ21, ρ22, ρ23, ρ24, Kd.isRo, ρ25, ρ26, bldV, Nat.reduceLeDiff, Int.reduceMul, Int.reduceAdd, Int.reduceSub, Int.reduceToNat, maxLen_eq, zeros_one, appS_some, appV_n, appV_v, appH_t, appH_f, Kd.isEx, ρ27, partV, CH.set_set, lkV, lkR, isKey, mupV, nxtV, ρ28, ρ29, hag, f9]) | (with_reducible first | refine condK_dec (fun _ => ?_) fun _ => ?_ | refine grd_dec (fun _ => ?_) fun _ => ?_ | refine egrd_dec (fun _ => ?_) fun _ => ?_))
    all_goals exact ⟨true, rfl, fun _ => hf, fun _ => rfl⟩
end Can
end Go.Proofs.Ythmhcpfplmhgnaa
