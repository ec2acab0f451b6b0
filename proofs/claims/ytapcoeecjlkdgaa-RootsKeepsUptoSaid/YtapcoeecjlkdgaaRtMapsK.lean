/- Roots: Maps, and where its rows lie. -/
import Derived.Test.YtapcoeecjlkdgaaRtBit
import Derived.Test.YtapcoeecjlkdgaaCanRun
namespace Go.Proofs.Ytapcoeecjlkdgaa
namespace Can
open Go Go.RowKit
set_option linter.unusedSimpArgs false
set_option linter.unusedVariables false
set_option maxRecDepth 4000
/-- Row i of the maps' words. -/
def slV (ball W i : Nat) : Value := if W = 0 then .slice (some ⟨0, 0, some 0⟩) 0 0 else .slice (some ⟨ball, i * W, none⟩) W W
theorem sl_V {ball W T P i : Nat} (hP : i * W = P) (h : P + W ≤ T) : sliceV 1 (.slice (some ⟨ball, 0, none⟩) T T) (P : Int) ((P : Int) + (W : Int)) ((P : Int) + (W : Int)) true = some (slV ball W i) := by
  unfold sliceV slV
  simp only
  rw [if_pos (by omega)]
  by_cases h0 : W = 0
  · rw [if_pos (by omega), if_pos h0]; rfl
  · rw [if_neg (by omega), if_neg h0, hP]
    have e1 : ((P : Int) + (W : Int) - (P : Int)).toNat = W := by omega
    rw [e1]
    simp
def putW (aw us : List Nat) (P : Nat) : List Nat := aw.take P ++ us ++ aw.drop (P + us.length)
theorem putW_len {aw us : List Nat} {P : Nat} (h : P + us.length ≤ aw.length) : (putW aw us P).length = aw.length := by
  simp [putW]; omega
theorem putW_get {aw us : List Nat} {P p : Nat} (h : P + us.length ≤ aw.length) : (putW aw us P).getD p 0 = if P ≤ p ∧ p < P + us.length then us.getD (p - P) 0 else aw.getD p 0 := by
  unfold putW
  simp only [List.getD_eq_getElem?_getD]
  by_cases h1 : p < P
  · rw [if_neg (by omega), List.append_assoc, List.getElem?_append_left (by simp; omega), List.getElem?_take_of_lt h1]
  · by_cases h2 : p < P + us.length
    · rw [if_pos (by omega), List.getElem?_append_left (by simp; omega), List.getElem?_append_right (by simp; omega)]
      congr 2; simp; omega
    · rw [if_neg (by omega), List.getElem?_append_right (by simp; omega), List.getElem?_drop]
      congr 2; simp; omega
theorem putW_w64 {aw us : List Nat} {P : Nat} (h1 : W64 aw) (h2 : W64 us) : W64 (putW aw us P) := by
  intro w hw
  unfold putW at hw
  rcases List.mem_append.1 hw with hw | hw
  · rcases List.mem_append.1 hw with hw | hw
    · exact h1 w (List.mem_of_mem_take hw)
    · exact h2 w hw
  · exact h1 w (List.mem_of_mem_drop hw)
theorem cpy_row {H : CH} {ball bt W P i e : Nat} {kd : Kd} {aw us : List Nat} (hP : i * W = P) (hA : H.ob ball = .cells (wordC aw) 40 .ex) (hB : H.ob bt = .cells (wordC us) e kd) (hl : us.length = W) (h : P + W ≤ aw.length) :
    ∃ k, cpyV H (slV ball W i) (.slice (some ⟨bt, 0, none⟩) W W) = some (k, H.set ball (.cells (wordC (putW aw us P)) 40 .ex)) := by
  by_cases h0 : W = 0
  · subst h0
    have e2 : us = [] := List.length_eq_zero_iff.1 hl
    subst e2
    have e3 : H.set ball (.cells (wordC (putW aw [] P)) 40 .ex) = H := by
      have : putW aw [] P = aw := by simp [putW]
      rw [this]
      cases H with
      | mk nx ob =>
        simp only [CH.set, CH.mk.injEq, true_and]
        funext x
        by_cases hx : x = ball
        · subst hx; rw [if_pos rfl]; exact hA.symm
        · rw [if_neg hx]
    rw [e3]
    refine ⟨.int .i64 0, ?_⟩
    simp [cpyV, wop, evF, srcCells, slV]
  · have ha : (wordC us).all isCell = true := by simp [wordC, isCell]
    have hs : srcCells H 1 (.slice (some ⟨bt, 0, none⟩) W W) = some (wordC us, W) := by
      rw [src_r, if_neg h0, hB, srcR_c, if_pos (by rw [wordC_len]; omega)]
      simp only [List.drop_zero, Nat.mul_one]
      rw [List.take_of_length_le (by rw [wordC_len]; omega)]
    have hc : setCells (wordC aw) P ((wordC us).take W) = wordC (putW aw us P) := by
      have e : (wordC us).take W = wordC us := List.take_of_length_le (by rw [wordC_len]; omega)
      rw [e]
      unfold setCells putW
      rw [wordC_len, hl]
      unfold wordC
      simp only [List.map_append, List.map_take, List.map_drop, List.append_assoc]
    refine ⟨.int .i64 (W : Nat), ?_⟩
    unfold cpyV slV
    rw [if_neg h0, hP]
    simp only [wop, evF, hs, Nat.reduceEqDiff, if_true, if_false]
    simp [hA, h0, hc, Kd.isRo, wordC_len, ha, h]
/-- What Maps answers: a list of maps. -/
structure MapsOk (F : Fn') (K : CH) (b : Nat) (ms : List (List Nat)) : Prop where
  row : ∃ oc, K.ob b = .cells oc 36 .ex ∧ oc.length = F.ins.length ∧ ∀ i, i < F.ins.length → ∃ q c, oc[i]? = some (.slice q (ms.getD i []).length c) ∧ WAt K q c (ms.getD i [])
  yes : ∀ i, i < F.ins.length → alF (F.ins.getD i default).op = true → (ms.getD i []).length = (F.regs.toNat + 63) / 64 ∧ ∀ r, bitW (ms.getD i []) r = true ↔ Lv F i r
  no : ∀ i, i < F.ins.length → alF (F.ins.getD i default).op = false → ms.getD i [] = []
/-- Where the rows lie: one array, row by row. -/
def RowsAt (F : Fn') (K : CH) (lo b W : Nat) : Prop := ∃ ba aw oc, lo ≤ ba ∧ ba < K.nx ∧ ba ≠ b ∧ K.ob ba = .cells (wordC aw) 40 .ex ∧ aw.length = W * F.ins.length ∧ K.ob b = .cells oc 36 .ex ∧ oc.length = F.ins.length ∧
  ∀ i, i < F.ins.length → oc[i]? = some (if alF (F.ins.getD i default).op = true then slV ba W i else .slice none 0 0)
theorem zeros_nil (n : Nat) : zeros [.slice none 0 0] n = List.replicate n (.slice none 0 0) := by
  unfold zeros
  apply List.ext_getElem
  · simp
  · intro i h1 h2; simp [Nat.mod_one]
theorem set_get? {l : List Value} {i j : Nat} {v : Value} (h : i < l.length) : (setCells l i [v])[j]? = if j = i then some v else l[j]? := by
  have : setCells l i [v] = l.set i v := by
    unfold setCells
    rw [List.set_eq_take_append_cons_drop, if_pos h]
    simp
  rw [this, List.getElem?_set]
  by_cases e : i = j
  · subst e; simp [h]
  · rw [if_neg e, if_neg (by omega)]
theorem set_len {l : List Value} {i : Nat} {v : Value} (h : i < l.length) : (setCells l i [v]).length = l.length := by
  simp [setCells]; omega
set_option maxHeartbeats 4000000 in
theorem maps_wp {H : CH} {F : Fn'} {A : FnA} (hF : FnOk H F A) (hnn : F.ins.length ≤ 1048576) :
    WpF (tblG Try.prog LG GG) 9 [.agg (fnC F A).toArray] H fun v K => HExt H K ∧ (if soundF F = true then ∃ b ms, v = .tuple #[.slice (some ⟨b, 0, none⟩) F.ins.length F.ins.length, .int .i64 0] ∧ H.nx ≤ b ∧ b < K.nx ∧ MapsOk F K b ms ∧ RowsAt F K H.nx b ((F.regs.toNat + 63) / 64)
      else v = .tuple #[.slice none 0 0, .int .i64 3]) := by
  refine wpF_rG (by rfl) (by kernel_rfl) ?_; (conv in (rF _ _).body => reduce); (conv in (rF _ _).res => reduce)
  repeat' (first | (simp (disch := first | omega | (decide +kernel) | (repeat (first | assumption | exact HExt.refl _ | (refine HExt.set ?_ (by first | omega | (simp only [new_nx, set_nx]; omega)) _) | (refine HExt.new ?_ _)))) only [↓RD, RU, accW_t, accW_f, isW, ↓putF_get, ↓putF_none, ↓evF_t, ↓evF_c, ↓evF_f, new_nx, set_nx, new_get, set_get, getD_zero, getD_succ, u_not, pop, lop, aop, wop, resL, resV, tupleV, akV, isVal, isCell, Value.cells, List.map_cons, List.map_nil, Bool.not_true, Bool.not_false, Option.map_some, ↓reduceIte, Nat.reduceEqDiff, Nat.reduceAdd, Int.reduceOfNat, Int.reduceNegSucc, reduceCtorEq, List.getElem?_cons_zero, List.getElem?_cons_succ, List.length_cons, List.length_nil, srcR_c, src_n, src_v, src_s, bnd, lenV, capV, Option.isSome_none, Option.isNone_none, Option.isSome_some, Option.isNone_some, Bool.true_or, Bool.false_or, List.take_succ_cons, List.take_zero, List.drop_succ_cons, List.drop_zero, List.cons_append, List.nil_append, List.drop_nil, List.all_cons, List.all_nil, Bool.true_and, Kd.isRo, List.size_toArray, List.toList_toArray, bldV, Nat.reduceLeDiff, Int.reduceMul, Int.reduceAdd, Int.reduceSub, Int.reduceToNat, maxLen_eq, zeros_one, appS_some, appV_n, appV_v, appH_t, appH_f, Kd.isEx, Bool.false_and, partV, Nat.add_zero, Int.toNat_natCast, fnC]) | (with_reducible refine condK_dec (fun _ => ?_) (fun _ => ?_)) | (with_reducible refine grd_dec (fun _ => ?_) (fun _ => ?_)) | (with_reducible refine egrd_dec (fun _ => ?_) (fun _ => ?_)))
  have hE0 : HExt H (H.new (.cells (fnC F A) 27 .ex)) := by (repeat (first | assumption | exact HExt.refl _ | (refine HExt.set ?_ (by first | omega | (simp only [new_nx, set_nx]; omega)) _) | (refine HExt.new ?_ _)))
  have hb0 : (H.new (.cells (fnC F A) 27 .ex)).ob H.nx = .cells (fnC F A) 27 .ex := by repeat' (first | (simp (disch := first | omega | (decide +kernel) | (repeat (first | assumption | exact HExt.refl _ | (refine HExt.set ?_ (by first | omega | (simp only [new_nx, set_nx]; omega)) _) | (refine HExt.new ?_ _)))) only [↓RD, RU, accW_t, accW_f, isW, ↓putF_get, ↓putF_none, ↓evF_t, ↓evF_c, ↓evF_f, new_nx, set_nx, new_get, set_get, getD_zero, getD_succ, u_not, pop, lop, aop, wop, resL, resV, tupleV, akV, isVal, isCell, Value.cells, List.map_cons, List.map_nil, Bool.not_true, Bool.not_false, Option.map_some, ↓reduceIte, Nat.reduceEqDiff, Nat.reduceAdd, Int.reduceOfNat, Int.reduceNegSucc, reduceCtorEq, List.getElem?_cons_zero, List.getElem?_cons_succ, List.length_cons, List.length_nil, srcR_c, src_n, src_v, src_s, bnd, lenV, capV, Option.isSome_none, Option.isNone_none, Option.isSome_some, Option.isNone_some, Bool.true_or, Bool.false_or, List.take_succ_cons, List.take_zero, List.drop_succ_cons, List.drop_zero, List.cons_append, List.nil_append, List.drop_nil, List.all_cons, List.all_nil, Bool.true_and, Kd.isRo, List.size_toArray, List.toList_toArray, bldV, Nat.reduceLeDiff, Int.reduceMul, Int.reduceAdd, Int.reduceSub, Int.reduceToNat, maxLen_eq, zeros_one, appS_some, appV_n, appV_v, appH_t, appH_f, Kd.isEx, Bool.false_and, partV, Nat.add_zero, Int.toNat_natCast]) | (with_reducible refine condK_dec (fun _ => ?_) (fun _ => ?_)) | (with_reducible refine grd_dec (fun _ => ?_) (fun _ => ?_)) | (with_reducible refine egrd_dec (fun _ => ?_) (fun _ => ?_)))
  refine (live_wp (hF.good hE0)).mono fun v1 KL ⟨hx1, hv1⟩ => ?_
  have hE1 := hE0.trans hx1
  have hn1 : H.nx + 1 ≤ KL.nx := hx1.nx
  have hb1 : KL.ob H.nx = _ := (hx1.ob _ (by show H.nx < H.nx + 1; omega)).trans hb0
  cases hsd : soundF F with
  | false =>
    rw [hsd] at hv1
    simp only [Bool.false_eq_true, if_false] at hv1
    subst hv1
    repeat' (first | (simp (disch := first | omega | (decide +kernel) | (repeat (first | assumption | exact HExt.refl _ | (refine HExt.set ?_ (by first | omega | (simp only [new_nx, set_nx]; omega)) _) | (refine HExt.new ?_ _)))) only [↓RD, RU, accW_t, accW_f, isW, ↓putF_get, ↓putF_none, ↓evF_t, ↓evF_c, ↓evF_f, new_nx, set_nx, new_get, set_get, getD_zero, getD_succ, u_not, pop, lop, aop, wop, resL, resV, tupleV, akV, isVal, isCell, Value.cells, List.map_cons, List.map_nil, Bool.not_true, Bool.not_false, Option.map_some, ↓reduceIte, Nat.reduceEqDiff, Nat.reduceAdd, Int.reduceOfNat, Int.reduceNegSucc, reduceCtorEq, List.getElem?_cons_zero, List.getElem?_cons_succ, List.length_cons, List.length_nil, srcR_c, src_n, src_v, src_s, bnd, lenV, capV, Option.isSome_none, Option.isNone_none, Option.isSome_some, Option.isNone_some, Bool.true_or, Bool.false_or, List.take_succ_cons, List.take_zero, List.drop_succ_cons, List.drop_zero, List.cons_append, List.nil_append, List.drop_nil, List.all_cons, List.all_nil, Bool.true_and, Kd.isRo, List.size_toArray, List.toList_toArray, bldV, Nat.reduceLeDiff, Int.reduceMul, Int.reduceAdd, Int.reduceSub, Int.reduceToNat, maxLen_eq, zeros_one, appS_some, appV_n, appV_v, appH_t, appH_f, Kd.isEx, Bool.false_and, partV, Nat.add_zero, Int.toNat_natCast]) | (with_reducible refine condK_dec (fun _ => ?_) (fun _ => ?_)) | (with_reducible refine grd_dec (fun _ => ?_) (fun _ => ?_)) | (with_reducible refine egrd_dec (fun _ => ?_) (fun _ => ?_)))
    all_goals first | exact hE1 | exact ⟨hE1, rfl⟩
  | true =>
  rw [hsd] at hv1
  simp only [if_true] at hv1
  obtain ⟨K1, rows, mm, rfl, hEK1, hLS, hrl, hlv⟩ := hv1
  have hreg : 0 < F.ins.length ∧ F.regs ≤ 65536 ∧ 0 ≤ F.regs := by
    have hsd' := hsd
    simp only [soundF, headF, Bool.and_eq_true, decide_eq_true_eq] at hsd'
    exact ⟨hsd'.1.2.2.2.2, hsd'.1.2.1, hsd'.1.1⟩
  obtain ⟨W, hW⟩ : ∃ W, (F.regs.toNat + 63) / 64 = W := ⟨_, rfl⟩
  have hW2 : (F.regs + 63) / 64 = (W : Int) := by omega
  have hW3 : W ≤ 1024 := by omega
  rw [hW] at hLS
  obtain ⟨n, hn⟩ : ∃ n, F.ins.length = n := ⟨_, rfl⟩
  obtain ⟨T, hT⟩ : ∃ T, W * n = T := ⟨_, rfl⟩
  have hT1 : (W : Int) * (n : Int) = (T : Int) := by rw [← hT, Int.natCast_mul]
  have hT2 : T ≤ 1073741824 := by
    rw [← hT]
    exact Nat.le_trans (Nat.mul_le_mul hW3 (show n ≤ 1048576 by omega)) (by decide)
  have hz := zeros_nil n
  have hz2 := wordC_zeros T
  rw [hn] at hLS
  repeat' (first | (simp (disch := first | omega | (decide +kernel) | (repeat (first | assumption | exact HExt.refl _ | (refine HExt.set ?_ (by first | omega | (simp only [new_nx, set_nx]; omega)) _) | (refine HExt.new ?_ _)))) only [↓RD, RU, accW_t, accW_f, isW, ↓putF_get, ↓putF_none, ↓evF_t, ↓evF_c, ↓evF_f, new_nx, set_nx, new_get, set_get, getD_zero, getD_succ, u_not, pop, lop, aop, wop, resL, resV, tupleV, akV, isVal, isCell, Value.cells, List.map_cons, List.map_nil, Bool.not_true, Bool.not_false, Option.map_some, ↓reduceIte, Nat.reduceEqDiff, Nat.reduceAdd, Int.reduceOfNat, Int.reduceNegSucc, reduceCtorEq, List.getElem?_cons_zero, List.getElem?_cons_succ, List.length_cons, List.length_nil, srcR_c, src_n, src_v, src_s, bnd, lenV, capV, Option.isSome_none, Option.isNone_none, Option.isSome_some, Option.isNone_some, Bool.true_or, Bool.false_or, List.take_succ_cons, List.take_zero, List.drop_succ_cons, List.drop_zero, List.cons_append, List.nil_append, List.drop_nil, List.all_cons, List.all_nil, Bool.true_and, Kd.isRo, List.size_toArray, List.toList_toArray, bldV, Nat.reduceLeDiff, Int.reduceMul, Int.reduceAdd, Int.reduceSub, Int.reduceToNat, maxLen_eq, zeros_one, appS_some, appV_n, appV_v, appH_t, appH_f, Kd.isEx, Bool.false_and, partV, Nat.add_zero, Int.toNat_natCast, hb1, fnC, hW2, hn, hT1, hz, hz2]) | (with_reducible refine condK_dec (fun _ => ?_) (fun _ => ?_)) | (with_reducible refine grd_dec (fun _ => ?_) (fun _ => ?_)) | (with_reducible refine egrd_dec (fun _ => ?_) (fun _ => ?_)))
  obtain ⟨ba, hba⟩ : ∃ ba, KL.nx = ba := ⟨_, rfl⟩
  have hbK : ∀ K : CH, (∀ x, x < ba → K.ob x = KL.ob x) → K.ob H.nx = .cells (fnC F A) 27 .ex := fun K hx => (hx _ (by omega)).trans hb1
  refine loop_w (fun m fr K => ∃ (j : Nat) (aw : List Nat) (oc : List Value), m = n - j ∧ j ≤ n ∧ fr 38 = .int .i64 (j : Int) ∧ ba + 2 ≤ K.nx ∧ (∀ x, x < ba → K.ob x = KL.ob x) ∧ K.ob ba = .cells (wordC aw) 40 .ex ∧ K.ob (ba + 1) = .cells oc 36 .ex ∧ aw.length = T ∧ W64 aw ∧ oc.length = n ∧
      ∀ i, i < n → if i < j ∧ alF (F.ins.getD i default).op = true then oc[i]? = some (slV ba W i) ∧ ∀ k, k < W → aw.getD (i * W + k) 0 = (mm.getD i []).getD k 0 else oc[i]? = some (.slice none 0 0)) (n := n)
    ⟨0, List.replicate T 0, List.replicate n (.slice none 0 0), rfl, Nat.zero_le _, by repeat' (first | (simp (disch := first | omega | (decide +kernel) | (repeat (first | assumption | exact HExt.refl _ | (refine HExt.set ?_ (by first | omega | (simp only [new_nx, set_nx]; omega)) _) | (refine HExt.new ?_ _)))) only [↓RD, RU, accW_t, accW_f, isW, ↓putF_get, ↓putF_none, ↓evF_t, ↓evF_c, ↓evF_f, new_nx, set_nx, new_get, set_get, getD_zero, getD_succ, u_not, pop, lop, aop, wop, resL, resV, tupleV, akV, isVal, isCell, Value.cells, List.map_cons, List.map_nil, Bool.not_true, Bool.not_false, Option.map_some, ↓reduceIte, Nat.reduceEqDiff, Nat.reduceAdd, Int.reduceOfNat, Int.reduceNegSucc, reduceCtorEq, List.getElem?_cons_zero, List.getElem?_cons_succ, List.length_cons, List.length_nil, srcR_c, src_n, src_v, src_s, bnd, lenV, capV, Option.isSome_none, Option.isNone_none, Option.isSome_some, Option.isNone_some, Bool.true_or, Bool.false_or, List.take_succ_cons, List.take_zero, List.drop_succ_cons, List.drop_zero, List.cons_append, List.nil_append, List.drop_nil, List.all_cons, List.all_nil, Bool.true_and, Kd.isRo, List.size_toArray, List.toList_toArray, bldV, Nat.reduceLeDiff, Int.reduceMul, Int.reduceAdd, Int.reduceSub, Int.reduceToNat, maxLen_eq, zeros_one, appS_some, appV_n, appV_v, appH_t, appH_f, Kd.isEx, Bool.false_and, partV, Nat.add_zero, Int.toNat_natCast]) | (with_reducible refine condK_dec (fun _ => ?_) (fun _ => ?_)) | (with_reducible refine grd_dec (fun _ => ?_) (fun _ => ?_)) | (with_reducible refine egrd_dec (fun _ => ?_) (fun _ => ?_))); rfl, by simp only [new_nx]; omega, fun x hx => by rw [new_get, if_neg (by first | omega | (simp only [new_nx, set_nx]; omega)), new_get, if_neg (by omega)], by repeat' (first | (simp (disch := first | omega | (decide +kernel) | (repeat (first | assumption | exact HExt.refl _ | (refine HExt.set ?_ (by first | omega | (simp only [new_nx, set_nx]; omega)) _) | (refine HExt.new ?_ _)))) only [↓RD, RU, accW_t, accW_f, isW, ↓putF_get, ↓putF_none, ↓evF_t, ↓evF_c, ↓evF_f, new_nx, set_nx, new_get, set_get, getD_zero, getD_succ, u_not, pop, lop, aop, wop, resL, resV, tupleV, akV, isVal, isCell, Value.cells, List.map_cons, List.map_nil, Bool.not_true, Bool.not_false, Option.map_some, ↓reduceIte, Nat.reduceEqDiff, Nat.reduceAdd, Int.reduceOfNat, Int.reduceNegSucc, reduceCtorEq, List.getElem?_cons_zero, List.getElem?_cons_succ, List.length_cons, List.length_nil, srcR_c, src_n, src_v, src_s, bnd, lenV, capV, Option.isSome_none, Option.isNone_none, Option.isSome_some, Option.isNone_some, Bool.true_or, Bool.false_or, List.take_succ_cons, List.take_zero, List.drop_succ_cons, List.drop_zero, List.cons_append, List.nil_append, List.drop_nil, List.all_cons, List.all_nil, Bool.true_and, Kd.isRo, List.size_toArray, List.toList_toArray, bldV, Nat.reduceLeDiff, Int.reduceMul, Int.reduceAdd, Int.reduceSub, Int.reduceToNat, maxLen_eq, zeros_one, appS_some, appV_n, appV_v, appH_t, appH_f, Kd.isEx, Bool.false_and, partV, Nat.add_zero, Int.toNat_natCast, hba]) | (with_reducible refine condK_dec (fun _ => ?_) (fun _ => ?_)) | (with_reducible refine grd_dec (fun _ => ?_) (fun _ => ?_)) | (with_reducible refine egrd_dec (fun _ => ?_) (fun _ => ?_))), by subst hba; repeat' (first | (simp (disch := first | omega | (decide +kernel) | (repeat (first | assumption | exact HExt.refl _ | (refine HExt.set ?_ (by first | omega | (simp only [new_nx, set_nx]; omega)) _) | (refine HExt.new ?_ _)))) only [↓RD, RU, accW_t, accW_f, isW, ↓putF_get, ↓putF_none, ↓evF_t, ↓evF_c, ↓evF_f, new_nx, set_nx, new_get, set_get, getD_zero, getD_succ, u_not, pop, lop, aop, wop, resL, resV, tupleV, akV, isVal, isCell, Value.cells, List.map_cons, List.map_nil, Bool.not_true, Bool.not_false, Option.map_some, ↓reduceIte, Nat.reduceEqDiff, Nat.reduceAdd, Int.reduceOfNat, Int.reduceNegSucc, reduceCtorEq, List.getElem?_cons_zero, List.getElem?_cons_succ, List.length_cons, List.length_nil, srcR_c, src_n, src_v, src_s, bnd, lenV, capV, Option.isSome_none, Option.isNone_none, Option.isSome_some, Option.isNone_some, Bool.true_or, Bool.false_or, List.take_succ_cons, List.take_zero, List.drop_succ_cons, List.drop_zero, List.cons_append, List.nil_append, List.drop_nil, List.all_cons, List.all_nil, Bool.true_and, Kd.isRo, List.size_toArray, List.toList_toArray, bldV, Nat.reduceLeDiff, Int.reduceMul, Int.reduceAdd, Int.reduceSub, Int.reduceToNat, maxLen_eq, zeros_one, appS_some, appV_n, appV_v, appH_t, appH_f, Kd.isEx, Bool.false_and, partV, Nat.add_zero, Int.toNat_natCast]) | (with_reducible refine condK_dec (fun _ => ?_) (fun _ => ?_)) | (with_reducible refine grd_dec (fun _ => ?_) (fun _ => ?_)) | (with_reducible refine egrd_dec (fun _ => ?_) (fun _ => ?_))), by simp, W64.rep _, by simp, fun i hi => by rw [if_neg (by omega)]; simp [hi]⟩ ?_
  rintro m fr K ⟨j, aw, oc, rfl, hj, f38, hKn, hKx, hKa, hKo, hal, haw, hol, hin⟩ hag
  have hb := hbK K hKx
  have hxK : HExt KL K := ⟨by omega, fun x hx => hKx x (by omega)⟩
  by_cases hjl : j < n
  case neg =>
    have hjn : j = n := by omega
    subst hjn
    repeat' (first | (simp (disch := first | omega | (decide +kernel) | (repeat (first | assumption | exact HExt.refl _ | (refine HExt.set ?_ (by first | omega | (simp only [new_nx, set_nx]; omega)) _) | (refine HExt.new ?_ _)))) only [↓RD, RU, accW_t, accW_f, isW, ↓putF_get, ↓putF_none, ↓evF_t, ↓evF_c, ↓evF_f, new_nx, set_nx, new_get, set_get, getD_zero, getD_succ, u_not, pop, lop, aop, wop, resL, resV, tupleV, akV, isVal, isCell, Value.cells, List.map_cons, List.map_nil, Bool.not_true, Bool.not_false, Option.map_some, ↓reduceIte, Nat.reduceEqDiff, Nat.reduceAdd, Int.reduceOfNat, Int.reduceNegSucc, reduceCtorEq, List.getElem?_cons_zero, List.getElem?_cons_succ, List.length_cons, List.length_nil, srcR_c, src_n, src_v, src_s, bnd, lenV, capV, Option.isSome_none, Option.isNone_none, Option.isSome_some, Option.isNone_some, Bool.true_or, Bool.false_or, List.take_succ_cons, List.take_zero, List.drop_succ_cons, List.drop_zero, List.cons_append, List.nil_append, List.drop_nil, List.all_cons, List.all_nil, Bool.true_and, Kd.isRo, List.size_toArray, List.toList_toArray, bldV, Nat.reduceLeDiff, Int.reduceMul, Int.reduceAdd, Int.reduceSub, Int.reduceToNat, maxLen_eq, zeros_one, appS_some, appV_n, appV_v, appH_t, appH_f, Kd.isEx, Bool.false_and, partV, Nat.add_zero, Int.toNat_natCast, f38, hag]) | (with_reducible refine condK_dec (fun _ => ?_) (fun _ => ?_)) | (with_reducible refine grd_dec (fun _ => ?_) (fun _ => ?_)) | (with_reducible refine egrd_dec (fun _ => ?_) (fun _ => ?_)))
    have hxH : HExt H K := hE1.trans hxK
    refine ⟨hxH, ba + 1, (List.range j).map (fun i => if alF (F.ins.getD i default).op = true then mm.getD i [] else []), by rw [hba], by have := hE1.nx; omega, by omega, ⟨⟨oc, hKo, by omega, fun i hi => ?_⟩, fun i hi ha => ?_, fun i hi ha => ?_⟩, ⟨ba, aw, oc, by omega, by omega, by omega, hKa, by rw [hW, hn, hT]; exact hal, hKo, by omega, fun i hi => ?_⟩⟩
    · have hi' : i < j := by omega
      have hg : ((List.range j).map (fun i => if alF (F.ins.getD i default).op = true then mm.getD i [] else [])).getD i [] = if alF (F.ins.getD i default).op = true then mm.getD i [] else [] := by
        rw [List.getD_eq_getElem?_getD, List.getElem?_map, List.getElem?_range hi']; rfl
      rw [hg]
      have h1 := hin i hi'
      have hwl := hLS.wl i (by omega)
      have hww := hLS.w64 i (by omega)
      obtain ⟨mi, hmi⟩ : ∃ mi, mm.getD i [] = mi := ⟨_, rfl⟩
      rw [hmi] at hwl hww h1 ⊢
      by_cases ha : alF (F.ins.getD i default).op = true
      · rw [if_pos ⟨hi', ha⟩] at h1
        rw [if_pos ha]
        by_cases h0 : W = 0
        · refine ⟨some ⟨0, 0, some 0⟩, 0, by rw [h1.1, slV, if_pos h0, hwl, h0], ?_, hww⟩
          have e : mi = [] := List.length_eq_zero_iff.1 (by omega)
          rw [e]
          exact .inl ⟨rfl, rfl, .inr (.inl rfl)⟩
        · refine ⟨some ⟨ba, i * W, none⟩, W, by rw [h1.1, slV, if_neg h0, hwl], ?_, hww⟩
          have hiW : i * W + W ≤ T := by
            rw [← hT, Nat.mul_comm W]
            have := Nat.mul_le_mul_right W (show i + 1 ≤ j by omega)
            rwa [Nat.add_mul, Nat.one_mul] at this
          refine .inr ⟨ba, i * W, wordC aw, _, _, rfl, by omega, by simp [hwl], by rw [maxLen_eq]; omega, hKa, by simp [wordC_len, hwl]; omega, fun k hk => ?_⟩
          have hk' : k < W := by simpa [hwl] using hk
          have hgk := wordC_get (ws := aw) (i := i * W + k) (by omega)
          refine ⟨?_, ?_⟩
          · rw [Nat.mul_one, List.take_one, List.head?_drop, hgk, h1.2 k hk']
            simp [List.getD, List.getElem?_eq_getElem (show k < mi.length by omega)]
          · have := hww.get k
            simp only [List.getElem_map]
            have hm := hww _ (List.getElem_mem (show k < mi.length by omega))
            simp [Lit.wf, IntKind.min, IntKind.max, IntKind.signed, IntKind.bits]; omega
      · rw [if_neg (fun h => ha h.2)] at h1
        rw [if_neg ha]
        exact ⟨none, 0, h1, .inl ⟨rfl, rfl, .inl rfl⟩, fun w hw => by cases hw⟩
    · have hi' : i < j := by omega
      have hg : ((List.range j).map (fun i => if alF (F.ins.getD i default).op = true then mm.getD i [] else [])).getD i [] = if alF (F.ins.getD i default).op = true then mm.getD i [] else [] := by
        rw [List.getD_eq_getElem?_getD, List.getElem?_map, List.getElem?_range hi']; rfl
      rw [hg, if_pos ha, hW]
      exact ⟨hLS.wl i (by omega), fun r => hlv i r⟩
    · have hi' : i < j := by omega
      have hg : ((List.range j).map (fun i => if alF (F.ins.getD i default).op = true then mm.getD i [] else [])).getD i [] = if alF (F.ins.getD i default).op = true then mm.getD i [] else [] := by
        rw [List.getD_eq_getElem?_getD, List.getElem?_map, List.getElem?_range hi']; rfl
      rw [hg, if_neg (by rw [ha]; decide)]
    · have h1 := hin i (by omega)
      rw [hW]
      by_cases ha : alF (F.ins.getD i default).op = true
      · rw [if_pos ⟨by omega, ha⟩] at h1
        rw [if_pos ha]; exact h1.1
      · rw [if_neg (fun h => ha h.2)] at h1
        rw [if_neg ha]; exact h1
  obtain ⟨l, o, os, e, kd, hqi, hl1, hc, hm, hob, holn, q, c, hcs, hsl, hio⟩ := (hF.good hE1).ins.el (show j < F.ins.length by omega)
  have hob := (hKx l (by omega)).trans hob
  have hq2 : A.qi = some ⟨l, o, none⟩ := hqi
  have hg := getD_at (show j < F.ins.length by omega)
  cases hal2 : alF F.ins[j].op with
  | false =>
    repeat' (first | (simp (disch := first | omega | (decide +kernel) | (repeat (first | assumption | exact HExt.refl _ | (refine HExt.set ?_ (by first | omega | (simp only [new_nx, set_nx]; omega)) _) | (refine HExt.new ?_ _)))) only [↓RD, RU, accW_t, accW_f, isW, ↓putF_get, ↓putF_none, ↓evF_t, ↓evF_c, ↓evF_f, new_nx, set_nx, new_get, set_get, getD_zero, getD_succ, u_not, pop, lop, aop, wop, resL, resV, tupleV, akV, isVal, isCell, Value.cells, List.map_cons, List.map_nil, Bool.not_true, Bool.not_false, Option.map_some, ↓reduceIte, Nat.reduceEqDiff, Nat.reduceAdd, Int.reduceOfNat, Int.reduceNegSucc, reduceCtorEq, List.getElem?_cons_zero, List.getElem?_cons_succ, List.length_cons, List.length_nil, srcR_c, src_n, src_v, src_s, bnd, lenV, capV, Option.isSome_none, Option.isNone_none, Option.isSome_some, Option.isNone_some, Bool.true_or, Bool.false_or, List.take_succ_cons, List.take_zero, List.drop_succ_cons, List.drop_zero, List.cons_append, List.nil_append, List.drop_nil, List.all_cons, List.all_nil, Bool.true_and, Kd.isRo, List.size_toArray, List.toList_toArray, bldV, Nat.reduceLeDiff, Int.reduceMul, Int.reduceAdd, Int.reduceSub, Int.reduceToNat, maxLen_eq, zeros_one, appS_some, appV_n, appV_v, appH_t, appH_f, Kd.isEx, Bool.false_and, partV, Nat.add_zero, Int.toNat_natCast, f38, hag, fnC, hb, hob, hcs, insC, hq2, hn, al_iff, hal2]) | (with_reducible refine condK_dec (fun _ => ?_) (fun _ => ?_)) | (with_reducible refine grd_dec (fun _ => ?_) (fun _ => ?_)) | (with_reducible refine egrd_dec (fun _ => ?_) (fun _ => ?_)))
    refine ⟨_, by omega, j + 1, aw, oc, rfl, by omega, rfl, by omega, fun x hx => ?_, ?_, ?_, hal, haw, hol, fun i hi => ?_⟩
    · rw [if_neg (by omega)]; exact hKx x hx
    · exact hKa
    · exact hKo
    · have := hin i hi
      by_cases e : i = j
      · subst e
        rw [if_neg (by omega)] at this
        rw [if_neg (fun h => by rw [hg, hal2] at h; cases h.2)]
        exact this
      · by_cases h2 : i < j ∧ alF (F.ins.getD i default).op = true
        · rw [if_pos h2] at this
          rw [if_pos ⟨by omega, h2.2⟩]; exact this
        · rw [if_neg h2] at this
          rw [if_neg (fun h => h2 ⟨by omega, h.2⟩)]; exact this
  | true =>
    obtain ⟨P, hP⟩ : ∃ P, j * W = P := ⟨_, rfl⟩
    have hPT : P + W ≤ T := by
      rw [← hT, ← hP, Nat.mul_comm W]
      have := Nat.mul_le_mul_right W (show j + 1 ≤ n by omega)
      rwa [Nat.add_mul, Nat.one_mul] at this
    have hPi : (j : Int) * (W : Int) = (P : Int) := by rw [← hP, Int.natCast_mul]
    have hsv := sl_V (ball := ba) (T := T) hP hPT
    obtain ⟨sp, sn, hS⟩ : ∃ sp sn, slV ba W j = .slice sp sn sn := by
      unfold slV
      split
      · exact ⟨_, _, rfl⟩
      · exact ⟨_, _, rfl⟩
    have hok : ∀ G : CH, G.ob ba = .cells (wordC aw) 40 .ex → okSl G 40 (.slice (some ⟨ba, 0, none⟩) T T) = true := fun G hG => by simp only [okSl, hG]; rfl
    have hrow := hLS.row j (by omega)
    have hout := hLS.out
    have hgo := outC_get (W := W) (n := n) (rows := rows) (i := j) (by omega)
    have hatr := hLS.at (show j < rows.length by omega)
    have houtK := (hKx _ (by have := hLS.nx; omega)).trans hout
    have hrowK := (hKx _ (by omega)).trans hrow
    have hwl := hLS.wl j (by omega)
    obtain ⟨bt, hbt⟩ : ∃ bt, rows.getD j 0 = bt := ⟨_, rfl⟩
    rw [hbt] at hgo hrowK hatr
    have hK1 := hLS.nx
    obtain ⟨Z, hZ⟩ : ∃ Z : CH → CH, Z = fun K => ((K.new (.cells [.int .i64 0, .int .i64 0, .int .i64 0, .int .i64 0, .int .i64 0, .int .i64 0, .slice none 0 0] 43 .ex)).set K.nx (.cells [.int .i64 F.ins[j].op, .int .i64 F.ins[j].d, .int .i64 F.ins[j].a, .int .i64 F.ins[j].b, .int .i64 F.ins[j].t, .int .i64 F.ins[j].k, .slice q F.ins[j].l.length c] 43 .ex)).set (ba + 1) (.cells (setCells oc j [slV ba W j]) 36 .ex) := ⟨_, rfl⟩
    obtain ⟨kc, hcp⟩ := cpy_row (H := Z K) (ball := ba) (bt := bt) (i := j) hP (by rw [hZ]; simp only [set_get, new_get]; rw [if_neg (by omega), if_neg (by omega), if_neg (by omega)]; exact hKa) (by rw [hZ]; simp only [set_get, new_get]; rw [if_neg (by omega), if_neg (by omega), if_neg (by omega)]; exact hrowK) hwl (by omega)
    rw [hZ] at hcp
    rw [hS] at hcp hsv
    have hgs : (setCells oc j [.slice sp sn sn])[j]? = some (.slice sp sn sn) := by rw [set_get? (by omega), if_pos rfl]
    have hok1 := hok ((K.new (.cells [.int .i64 0, .int .i64 0, .int .i64 0, .int .i64 0, .int .i64 0, .int .i64 0, .slice none 0 0] 43 .ex)).set K.nx (.cells [.int .i64 F.ins[j].op, .int .i64 F.ins[j].d, .int .i64 F.ins[j].a, .int .i64 F.ins[j].b, .int .i64 F.ins[j].t, .int .i64 F.ins[j].k, .slice q F.ins[j].l.length c] 43 .ex)) (by simp only [set_get, new_get]; rw [if_neg (by omega), if_neg (by omega)]; exact hKa)
    repeat' (first | (simp (disch := first | omega | (decide +kernel) | (repeat (first | assumption | exact HExt.refl _ | (refine HExt.set ?_ (by first | omega | (simp only [new_nx, set_nx]; omega)) _) | (refine HExt.new ?_ _)))) only [↓RD, RU, accW_t, accW_f, isW, ↓putF_get, ↓putF_none, ↓evF_t, ↓evF_c, ↓evF_f, new_nx, set_nx, new_get, set_get, getD_zero, getD_succ, u_not, pop, lop, aop, wop, resL, resV, tupleV, akV, isVal, isCell, Value.cells, List.map_cons, List.map_nil, Bool.not_true, Bool.not_false, Option.map_some, ↓reduceIte, Nat.reduceEqDiff, Nat.reduceAdd, Int.reduceOfNat, Int.reduceNegSucc, reduceCtorEq, List.getElem?_cons_zero, List.getElem?_cons_succ, List.length_cons, List.length_nil, srcR_c, src_n, src_v, src_s, bnd, lenV, capV, Option.isSome_none, Option.isNone_none, Option.isSome_some, Option.isNone_some, Bool.true_or, Bool.false_or, List.take_succ_cons, List.take_zero, List.drop_succ_cons, List.drop_zero, List.cons_append, List.nil_append, List.drop_nil, List.all_cons, List.all_nil, Bool.true_and, Kd.isRo, List.size_toArray, List.toList_toArray, bldV, Nat.reduceLeDiff, Int.reduceMul, Int.reduceAdd, Int.reduceSub, Int.reduceToNat, maxLen_eq, zeros_one, appS_some, appV_n, appV_v, appH_t, appH_f, Kd.isEx, Bool.false_and, partV, Nat.add_zero, Int.toNat_natCast, f38, hag, fnC, hb, hob, hcs, insC, hq2, hn, al_iff, hal2, hPi, hKa, hKo, hol, hba, hsv, hok1, houtK, hgo, ↓w_cpyV, hcp, hgs]) | (with_reducible refine condK_dec (fun _ => ?_) (fun _ => ?_)) | (with_reducible refine grd_dec (fun _ => ?_) (fun _ => ?_)) | (with_reducible refine egrd_dec (fun _ => ?_) (fun _ => ?_)))
    have hwm := hLS.w64 j (by omega)
    refine ⟨_, by omega, j + 1, putW aw (mm.getD j []) P, setCells oc j [.slice sp sn sn], rfl, by omega, rfl, by omega, fun x hx => ?_, rfl, rfl, by rw [putW_len (by omega)]; exact hal, putW_w64 haw hwm, by rw [set_len (by omega)]; exact hol, fun i hi => ?_⟩
    · rw [if_neg (by omega), if_neg (by omega), if_neg (by omega)]; exact hKx x hx
    · have h1 := hin i hi
      have hgw : ∀ k, k < W → (putW aw (mm.getD j []) P).getD (i * W + k) 0 = if i = j then (mm.getD j []).getD k 0 else aw.getD (i * W + k) 0 := fun k hk => by
        rw [putW_get (by omega), hwl]
        by_cases e : i = j
        · subst e
          rw [if_pos (by omega), if_pos rfl]
          congr 1; omega
        · rw [if_neg e, if_neg]
          rcases Nat.lt_or_gt_of_ne e with h | h
          · have := Nat.mul_le_mul_right W (show i + 1 ≤ j by omega)
            rw [Nat.add_mul, Nat.one_mul] at this
            omega
          · have := Nat.mul_le_mul_right W (show j + 1 ≤ i by omega)
            rw [Nat.add_mul, Nat.one_mul] at this
            omega
      by_cases e : i = j
      · subst e
        rw [if_pos ⟨by omega, by rw [hg]; exact hal2⟩, set_get? (by omega), if_pos rfl, hS]
        exact ⟨rfl, fun k hk => by rw [hgw k hk, if_pos rfl]⟩
      · rw [set_get? (by omega), if_neg e]
        by_cases h2 : i < j ∧ alF (F.ins.getD i default).op = true
        · rw [if_pos h2] at h1
          rw [if_pos ⟨by omega, h2.2⟩]
          exact ⟨h1.1, fun k hk => by rw [hgw k hk, if_neg e]; exact h1.2 k hk⟩
        · rw [if_neg h2] at h1
          rw [if_neg (fun h => h2 ⟨by omega, h.2⟩)]; exact h1
end Can
end Go.Proofs.Ytapcoeecjlkdgaa
