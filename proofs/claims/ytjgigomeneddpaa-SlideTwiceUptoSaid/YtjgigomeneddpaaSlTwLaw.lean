/- Slide: the law SlideTwice answers true, as a canonical run. -/
import Derived.Test.YtjgigomeneddpaaSlTwo
import Derived.Test.YtjgigomeneddpaaSlOrdLaw
namespace Go.Proofs.Ytjgigomeneddpaa
namespace Can
open Go Go.RowKit
set_option linter.unusedSimpArgs false
set_option linter.unusedVariables false
set_option maxRecDepth 4000
theorem ones : ∀ l : List Int, (l.map fun _ => 1).sum = l.length
  | [] => rfl
  | _ :: l => by simp only [List.map_cons, List.sum_cons, List.length_cons, ones l]; omega
theorem copy2 {e l : Nat} {K K1 : CH} {q : Option Addr} {c c0 : Nat} {xs ys : List Int} {kd : Kd} (hs : SlAt 1 (CInt .u64) K q c ys) (hx : HExt K K1) (hb : (xs.length + ys.length) * 8 ≤ 140737488355328) (hl : K1.ob l = .cells (xs.map (.int .u64)) e kd) (hro : kd.isRo = false) (hl1 : l < K1.nx) (hc : xs.length ≤ c0) (hc0 : c0 ≤ 9223372036854775807)
    {Q : Value → CH → Prop} (kk : ∀ x c2 K2 kd2, K1.nx ≤ K2.nx → (∀ y, y < K1.nx → y ≠ l → K2.ob y = K1.ob y) → (x = l ∨ K1.nx ≤ x) → x < K2.nx → K2.ob x = .cells ((xs ++ ys).map (.int .u64)) e kd2 → kd2.isRo = false → (xs ++ ys).length ≤ c2 → c2 ≤ 9223372036854775807 → Q (.slice (some ⟨x, 0, none⟩) (xs ++ ys).length c2) K2) :
    optW (appS (srcCells K1 1 (.slice q ys.length c)) e 1 8 (.slice (some ⟨l, 0, none⟩) xs.length c0) K1) Q := by
  rw [src_ints (hs.good (CInt.good _) hx), flat_ints, appS_some, appV_r, hl, appR_c]
  by_cases e0 : ys.length = 0
  · have : ys = [] := List.length_eq_zero_iff.1 e0
    rw [if_pos e0, optW_some]
    subst this
    have := kk l c0 K1 kd (Nat.le_refl _) (fun _ _ _ => rfl) (.inl rfl) hl1 (by rw [List.append_nil]; exact hl) hro (by rw [List.append_nil]; exact hc) hc0
    rw [List.append_nil] at this
    exact this
  · have hall : (ys.map (Value.int .u64)).all isCell = true := by simp [isCell]
    rw [if_neg e0, if_pos ⟨rfl, rfl, hro, by simp, hall, hb, by rw [maxLen_eq]; omega⟩, optW_some]
    have hl2 : xs.length + ys.length = (xs ++ ys).length := by simp
    have htk : (xs.map (Value.int .u64)).take (xs.length * 1) ++ ys.map (Value.int .u64) = (xs ++ ys).map (Value.int .u64) := by
      rw [Nat.mul_one, List.take_of_length_le (by simp), List.map_append]
    rw [htk, hl2]
    refine kk K1.nx _ _ .gr ?_ (fun y hy hne => ?_) (.inr (Nat.le_refl _)) ?_ ?_ rfl (Nat.le_refl _) (by simp; omega)
    · unfold appH; split <;> exact Nat.le_succ _
    · unfold appH; split
      · rw [new_get, if_neg (by omega)]
      · rw [new_get, if_neg (by show ¬ y = K1.nx; omega), set_get, if_neg hne]
    · unfold appH; split <;> exact Nat.lt_succ_self _
    · unfold appH; split <;> exact new_get.trans (if_pos rfl)
/-- The first part of a list in own memory. -/
theorem grw_cut {A K : CH} {u : Value} {xs : List Int} (h : Grw A 50 1 (ints .u64) K u xs) {n : Nat} (hn : n ≤ xs.length) (hm : xs.length ≤ 9223372036854775807) (hw : ∀ x ∈ xs, (Lit.int .u64 x).wf = true) :
    ∃ q c q' c', u = .slice q xs.length c ∧ Words K q c xs ∧ sliceV 1 (.slice q xs.length c) ((0 : Nat) : Int) (n : Int) (c : Int) false = some (.slice q' n c') ∧ Words K q' c' (xs.take n) ∧ (∀ l o, q' = some ⟨l, o, none⟩ → A.nx ≤ l ∧ l < K.nx) := by
  rcases h with ⟨rfl, rfl⟩ | ⟨b, kd, rfl, h1, h2, h3, h4⟩
  · have : n = 0 := by simpa using hn
    subst this
    refine ⟨none, 0, none, 0, rfl, ⟨.inl ⟨rfl, rfl, .inl rfl⟩, rfl⟩, rfl, ⟨.inl ⟨rfl, rfl, .inl rfl⟩, rfl⟩, fun l o e => by cases e⟩
  · rw [flat_ints] at h3
    have hl : (xs.take n).length = n := by rw [List.length_take]; omega
    refine ⟨_, _, some ⟨b, 0, none⟩, xs.length, rfl, words_own h2 h3 (Nat.le_refl _) (by rw [maxLen_eq]; exact hm) hw, ?_, ⟨.inr ⟨b, 0, _, _, _, rfl, h2, by rw [hl]; exact hn, by rw [maxLen_eq]; exact hm, h3, by simp; omega, fun i hi => ?_⟩, okSl_own h3⟩, fun l o e => by cases e; exact ⟨h1, h2⟩⟩
    · rw [slice_all (by omega) (by omega) (by omega)]
      have q1 : ((n : Int) - ((0 : Nat) : Int)).toNat = n := by omega
      have q2 : ((xs.length : Int) - ((0 : Nat) : Int)).toNat = xs.length := by omega
      rw [q1, q2]; rfl
    · have hix : i < xs.length := by omega
      have e : (xs.take n)[i] = xs[i] := List.getElem_take
      rw [e]
      refine ⟨?_, hw _ (List.getElem_mem hix)⟩
      rw [Nat.zero_add, Nat.mul_one, ← List.map_drop, ← List.map_take, List.drop_eq_getElem_cons hix]
      rfl
theorem rt_mk {ws roots : List Int} {tn : Nat} {ls : List Nat} (hF : Form ws tn ls) (hrs : ∀ w ∈ roots, 0 ≤ w ∧ w < 18446744073709551616) (hf : formF ws tn = some (intsN ls)) (h : RtOk ls roots) : rtB ws tn roots = true := by
  unfold rtB
  rw [hf]
  refine List.all_eq_true.2 fun w hwm => ?_
  have hwu := hrs w hwm
  have hk := h w hwm
  rw [Int.toNat_natCast]
  unfold refOk
  rw [if_neg hk.1]
  by_cases h0 : kindF w = 0
  · rw [if_pos h0, decide_eq_true_eq]
    have hm := hk.2 h0
    have hb := obj_lt2 hF hm
    have hl := hF.ch.mem _ hm
    refine ⟨?_, (mem_intsN_adr hwu.1).2 hm⟩
    unfold adr at hl
    omega
  · rw [if_neg h0]
set_option maxHeartbeats 1000000 in
theorem twice_law {H : CH} {p q1 q2 : Option Addr} {c d1 d2 : Nat} {ws sm mr : List Int} (hw : Words H p c ws) (top : Int) (h1 : -9223372036854775808 ≤ top) (h2 : top ≤ 9223372036854775807) (h5 : ws.length * 8 ≤ 140737488355328) (hs : SlAt 1 (CInt .u64) H q1 d1 sm) (hm : SlAt 1 (CInt .u64) H q2 d2 mr) (hb : sm.length + mr.length ≤ 1048576) :
    WpF (tblG Try.prog LG GG) 4 [.agg #[.slice p ws.length c, .int .i64 top], .slice q1 sm.length d1, .slice q2 mr.length d2] H fun v K => v = .bool true := by
  have hu := sl_u64 hw.1
  have hus := sl_u64 hs
  have hum := sl_u64 hm
  refine wpF_rG (by rfl) (by kernel_rfl) ?_; (conv in (rF _ _).body => reduce); (conv in (rF _ _).res => reduce)
  repeat' (first | (simp (disch := first | omega | (decide +kernel) | (repeat (first | assumption | exact HExt.refl _ | (refine HExt.set ?_ (by first | omega | (simp only [new_nx, set_nx]; omega)) _) | (refine HExt.new ?_ _)))) only [↓RD, RU, accW_t, accW_f, isW, ↓putF_get, ↓putF_none, ↓evF_t, ↓evF_c, ↓evF_f, new_nx, set_nx, new_get, set_get, getD_zero, getD_succ, u_not, pop, lop, aop, wop, resL, resV, tupleV, akV, isVal, isCell, Value.cells, List.map_cons, List.map_nil, Bool.not_true, Bool.not_false, Option.map_some, ↓reduceIte, Nat.reduceEqDiff, Nat.reduceAdd, Int.reduceOfNat, Int.reduceNegSucc, reduceCtorEq, List.getElem?_cons_zero, List.getElem?_cons_succ, List.length_cons, List.length_nil, srcR_c, src_n, src_v, src_s, bnd, lenV, capV, Option.isSome_none, Option.isNone_none, Option.isSome_some, Option.isNone_some, Bool.true_or, Bool.false_or, List.take_succ_cons, List.take_zero, List.drop_succ_cons, List.drop_zero, List.cons_append, List.nil_append, List.drop_nil, List.all_cons, List.all_nil, Bool.true_and, Kd.isRo, List.size_toArray, List.toList_toArray, bldV, Nat.reduceLeDiff, Int.reduceMul, Int.reduceAdd, Int.reduceSub, Int.reduceToNat, maxLen_eq, zeros_one, appS_some, appV_n, appV_v, appH_t, appH_f, Kd.isEx, Bool.false_and, partV, Nat.add_zero, Int.toNat_natCast, knownG_iff]) | (with_reducible refine condK_dec (fun _ => ?_) (fun _ => ?_)) | (with_reducible refine grd_dec (fun _ => ?_) (fun _ => ?_)) | (with_reducible refine egrd_dec (fun _ => ?_) (fun _ => ?_)))
  refine copy_ints (K := H) hs (by (repeat (first | assumption | exact HExt.refl _ | (refine HExt.set ?_ (by first | omega | (simp only [new_nx, set_nx]; omega)) _) | (refine HExt.new ?_ _)))) (by omega) (by omega) (l := H.nx + 1) (by repeat' (first | (simp (disch := first | omega | (decide +kernel) | (repeat (first | assumption | exact HExt.refl _ | (refine HExt.set ?_ (by first | omega | (simp only [new_nx, set_nx]; omega)) _) | (refine HExt.new ?_ _)))) only [↓RD, RU, accW_t, accW_f, isW, ↓putF_get, ↓putF_none, ↓evF_t, ↓evF_c, ↓evF_f, new_nx, set_nx, new_get, set_get, getD_zero, getD_succ, u_not, pop, lop, aop, wop, resL, resV, tupleV, akV, isVal, isCell, Value.cells, List.map_cons, List.map_nil, Bool.not_true, Bool.not_false, Option.map_some, ↓reduceIte, Nat.reduceEqDiff, Nat.reduceAdd, Int.reduceOfNat, Int.reduceNegSucc, reduceCtorEq, List.getElem?_cons_zero, List.getElem?_cons_succ, List.length_cons, List.length_nil, srcR_c, src_n, src_v, src_s, bnd, lenV, capV, Option.isSome_none, Option.isNone_none, Option.isSome_some, Option.isNone_some, Bool.true_or, Bool.false_or, List.take_succ_cons, List.take_zero, List.drop_succ_cons, List.drop_zero, List.cons_append, List.nil_append, List.drop_nil, List.all_cons, List.all_nil, Bool.true_and, Kd.isRo, List.size_toArray, List.toList_toArray, bldV, Nat.reduceLeDiff, Int.reduceMul, Int.reduceAdd, Int.reduceSub, Int.reduceToNat, maxLen_eq, zeros_one, appS_some, appV_n, appV_v, appH_t, appH_f, Kd.isEx, Bool.false_and, partV, Nat.add_zero, Int.toNat_natCast]) | (with_reducible refine condK_dec (fun _ => ?_) (fun _ => ?_)) | (with_reducible refine grd_dec (fun _ => ?_) (fun _ => ?_)) | (with_reducible refine egrd_dec (fun _ => ?_) (fun _ => ?_))); rfl) (by first | omega | (simp only [new_nx, set_nx]; omega)) fun x1 c1 K1 kd1 g1 g2 g3 g4 g5 g6 g7 g8 => ?_
  have g1' : H.nx + 2 ≤ K1.nx := g1
  have hx1l : H.nx + 1 ≤ x1 := by
    rcases g3 with h | h
    · omega
    · have : H.nx + 2 ≤ x1 := h
      omega
  have hb1 : K1.ob H.nx = .cells [.slice p ws.length c, .int .i64 top] 24 .ex := (g2 _ (by first | omega | (simp only [new_nx, set_nx]; omega))).trans (by repeat' (first | (simp (disch := first | omega | (decide +kernel) | (repeat (first | assumption | exact HExt.refl _ | (refine HExt.set ?_ (by first | omega | (simp only [new_nx, set_nx]; omega)) _) | (refine HExt.new ?_ _)))) only [↓RD, RU, accW_t, accW_f, isW, ↓putF_get, ↓putF_none, ↓evF_t, ↓evF_c, ↓evF_f, new_nx, set_nx, new_get, set_get, getD_zero, getD_succ, u_not, pop, lop, aop, wop, resL, resV, tupleV, akV, isVal, isCell, Value.cells, List.map_cons, List.map_nil, Bool.not_true, Bool.not_false, Option.map_some, ↓reduceIte, Nat.reduceEqDiff, Nat.reduceAdd, Int.reduceOfNat, Int.reduceNegSucc, reduceCtorEq, List.getElem?_cons_zero, List.getElem?_cons_succ, List.length_cons, List.length_nil, srcR_c, src_n, src_v, src_s, bnd, lenV, capV, Option.isSome_none, Option.isNone_none, Option.isSome_some, Option.isNone_some, Bool.true_or, Bool.false_or, List.take_succ_cons, List.take_zero, List.drop_succ_cons, List.drop_zero, List.cons_append, List.nil_append, List.drop_nil, List.all_cons, List.all_nil, Bool.true_and, Kd.isRo, List.size_toArray, List.toList_toArray, bldV, Nat.reduceLeDiff, Int.reduceMul, Int.reduceAdd, Int.reduceSub, Int.reduceToNat, maxLen_eq, zeros_one, appS_some, appV_n, appV_v, appH_t, appH_f, Kd.isEx, Bool.false_and, partV, Nat.add_zero, Int.toNat_natCast]) | (with_reducible refine condK_dec (fun _ => ?_) (fun _ => ?_)) | (with_reducible refine grd_dec (fun _ => ?_) (fun _ => ?_)) | (with_reducible refine egrd_dec (fun _ => ?_) (fun _ => ?_))))
  have hE1 : HExt H K1 := ⟨by omega, fun y hy => (g2 y (by first | omega | (simp only [new_nx, set_nx]; omega))).trans (by rw [new_get, if_neg (by first | omega | (simp only [new_nx, set_nx]; omega)), new_get, if_neg (by omega)])⟩
  repeat' (first | (simp (disch := first | omega | (decide +kernel) | (repeat (first | assumption | exact HExt.refl _ | (refine HExt.set ?_ (by first | omega | (simp only [new_nx, set_nx]; omega)) _) | (refine HExt.new ?_ _)))) only [↓RD, RU, accW_t, accW_f, isW, ↓putF_get, ↓putF_none, ↓evF_t, ↓evF_c, ↓evF_f, new_nx, set_nx, new_get, set_get, getD_zero, getD_succ, u_not, pop, lop, aop, wop, resL, resV, tupleV, akV, isVal, isCell, Value.cells, List.map_cons, List.map_nil, Bool.not_true, Bool.not_false, Option.map_some, ↓reduceIte, Nat.reduceEqDiff, Nat.reduceAdd, Int.reduceOfNat, Int.reduceNegSucc, reduceCtorEq, List.getElem?_cons_zero, List.getElem?_cons_succ, List.length_cons, List.length_nil, srcR_c, src_n, src_v, src_s, bnd, lenV, capV, Option.isSome_none, Option.isNone_none, Option.isSome_some, Option.isNone_some, Bool.true_or, Bool.false_or, List.take_succ_cons, List.take_zero, List.drop_succ_cons, List.drop_zero, List.cons_append, List.nil_append, List.drop_nil, List.all_cons, List.all_nil, Bool.true_and, Kd.isRo, List.size_toArray, List.toList_toArray, bldV, Nat.reduceLeDiff, Int.reduceMul, Int.reduceAdd, Int.reduceSub, Int.reduceToNat, maxLen_eq, zeros_one, appS_some, appV_n, appV_v, appH_t, appH_f, Kd.isEx, Bool.false_and, partV, Nat.add_zero, Int.toNat_natCast]) | (with_reducible refine condK_dec (fun _ => ?_) (fun _ => ?_)) | (with_reducible refine grd_dec (fun _ => ?_) (fun _ => ?_)) | (with_reducible refine egrd_dec (fun _ => ?_) (fun _ => ?_)))
  obtain ⟨all, hall⟩ : ∃ all, sm ++ mr = all := ⟨_, rfl⟩
  have hal : all.length = sm.length + mr.length := by rw [← hall]; simp
  have hsub : ∀ w ∈ sm, w ∈ all := fun w h => by rw [← hall]; exact List.mem_append_left _ h
  have hua : ∀ w ∈ all, 0 ≤ w ∧ w < 18446744073709551616 := fun w h => by
    rw [← hall] at h
    exact (List.mem_append.1 h).elim (hus w) (hum w)
  refine copy2 (xs := sm) hm hE1 (by omega) g5 g6 g4 g7 g8 fun x2 c2 K2 kd2 j1 j2 j3 j4 j5 j6 j7 j8 => ?_
  rw [hall] at j5 j7 ⊢
  have hx2l : H.nx + 1 ≤ x2 := by omega
  have hE2 : HExt H K2 := ⟨by omega, fun y hy => (j2 y (by omega) (by omega)).trans (hE1.ob y hy)⟩
  have hb2 := (j2 H.nx (by omega) (by omega)).trans hb1
  have hsa := (words_own j4 j5 j7 (by rw [maxLen_eq]; exact j8) (fun x hx => wf_u64 (hua x hx))).1
  repeat' (first | (simp (disch := first | omega | (decide +kernel) | (repeat (first | assumption | exact HExt.refl _ | (refine HExt.set ?_ (by first | omega | (simp only [new_nx, set_nx]; omega)) _) | (refine HExt.new ?_ _)))) only [↓RD, RU, accW_t, accW_f, isW, ↓putF_get, ↓putF_none, ↓evF_t, ↓evF_c, ↓evF_f, new_nx, set_nx, new_get, set_get, getD_zero, getD_succ, u_not, pop, lop, aop, wop, resL, resV, tupleV, akV, isVal, isCell, Value.cells, List.map_cons, List.map_nil, Bool.not_true, Bool.not_false, Option.map_some, ↓reduceIte, Nat.reduceEqDiff, Nat.reduceAdd, Int.reduceOfNat, Int.reduceNegSucc, reduceCtorEq, List.getElem?_cons_zero, List.getElem?_cons_succ, List.length_cons, List.length_nil, srcR_c, src_n, src_v, src_s, bnd, lenV, capV, Option.isSome_none, Option.isNone_none, Option.isSome_some, Option.isNone_some, Bool.true_or, Bool.false_or, List.take_succ_cons, List.take_zero, List.drop_succ_cons, List.drop_zero, List.cons_append, List.nil_append, List.drop_nil, List.all_cons, List.all_nil, Bool.true_and, Kd.isRo, List.size_toArray, List.toList_toArray, bldV, Nat.reduceLeDiff, Int.reduceMul, Int.reduceAdd, Int.reduceSub, Int.reduceToNat, maxLen_eq, zeros_one, appS_some, appV_n, appV_v, appH_t, appH_f, Kd.isEx, Bool.false_and, partV, Nat.add_zero, Int.toNat_natCast, hb2]) | (with_reducible refine condK_dec (fun _ => ?_) (fun _ => ?_)) | (with_reducible refine grd_dec (fun _ => ?_) (fun _ => ?_)) | (with_reducible refine egrd_dec (fun _ => ?_) (fun _ => ?_)))
  refine (rcopy_wp (hw.good hE2) top h5).mono fun v K3 ⟨hx3, l, c', kd, hv, hl1, hl2, hob, hro, hc1, hc2⟩ => ?_
  subst hv
  have hn3 := hx3.nx
  have hE3 := hE2.trans hx3
  have hb3 := (hx3.ob H.nx (by omega)).trans hb2
  repeat' (first | (simp (disch := first | omega | (decide +kernel) | (repeat (first | assumption | exact HExt.refl _ | (refine HExt.set ?_ (by first | omega | (simp only [new_nx, set_nx]; omega)) _) | (refine HExt.new ?_ _)))) only [↓RD, RU, accW_t, accW_f, isW, ↓putF_get, ↓putF_none, ↓evF_t, ↓evF_c, ↓evF_f, new_nx, set_nx, new_get, set_get, getD_zero, getD_succ, u_not, pop, lop, aop, wop, resL, resV, tupleV, akV, isVal, isCell, Value.cells, List.map_cons, List.map_nil, Bool.not_true, Bool.not_false, Option.map_some, ↓reduceIte, Nat.reduceEqDiff, Nat.reduceAdd, Int.reduceOfNat, Int.reduceNegSucc, reduceCtorEq, List.getElem?_cons_zero, List.getElem?_cons_succ, List.length_cons, List.length_nil, srcR_c, src_n, src_v, src_s, bnd, lenV, capV, Option.isSome_none, Option.isNone_none, Option.isSome_some, Option.isNone_some, Bool.true_or, Bool.false_or, List.take_succ_cons, List.take_zero, List.drop_succ_cons, List.drop_zero, List.cons_append, List.nil_append, List.drop_nil, List.all_cons, List.all_nil, Bool.true_and, Kd.isRo, List.size_toArray, List.toList_toArray, bldV, Nat.reduceLeDiff, Int.reduceMul, Int.reduceAdd, Int.reduceSub, Int.reduceToNat, maxLen_eq, zeros_one, appS_some, appV_n, appV_v, appH_t, appH_f, Kd.isEx, Bool.false_and, partV, Nat.add_zero, Int.toNat_natCast]) | (with_reducible refine condK_dec (fun _ => ?_) (fun _ => ?_)) | (with_reducible refine grd_dec (fun _ => ?_) (fun _ => ?_)) | (with_reducible refine egrd_dec (fun _ => ?_) (fun _ => ?_)))
  refine (coll_copy hx3 hl1 hl2 hob hro hc1 hc2 hu h1 h2 hsa (by omega)).mono fun v K4 ⟨hE24, hn4, ho4, hv⟩ => ?_
  have hE4 := hE2.trans hE24
  have hb4 := (ho4 H.nx (by omega) (by omega)).trans hb3
  have hsa4 := hsa.good (CInt.good _) hE24
  rcases hv with ⟨hrt, rfl, hob4, hm4⟩ | ⟨hrt, tn, ls, u, rfl, hF, hrk, hf, rfl, hG, hob4, hm4⟩
  · repeat' (first | (simp (disch := first | omega | (decide +kernel) | (repeat (first | assumption | exact HExt.refl _ | (refine HExt.set ?_ (by first | omega | (simp only [new_nx, set_nx]; omega)) _) | (refine HExt.new ?_ _)))) only [↓RD, RU, accW_t, accW_f, isW, ↓putF_get, ↓putF_none, ↓evF_t, ↓evF_c, ↓evF_f, new_nx, set_nx, new_get, set_get, getD_zero, getD_succ, u_not, pop, lop, aop, wop, resL, resV, tupleV, akV, isVal, isCell, Value.cells, List.map_cons, List.map_nil, Bool.not_true, Bool.not_false, Option.map_some, ↓reduceIte, Nat.reduceEqDiff, Nat.reduceAdd, Int.reduceOfNat, Int.reduceNegSucc, reduceCtorEq, List.getElem?_cons_zero, List.getElem?_cons_succ, List.length_cons, List.length_nil, srcR_c, src_n, src_v, src_s, bnd, lenV, capV, Option.isSome_none, Option.isNone_none, Option.isSome_some, Option.isNone_some, Bool.true_or, Bool.false_or, List.take_succ_cons, List.take_zero, List.drop_succ_cons, List.drop_zero, List.cons_append, List.nil_append, List.drop_nil, List.all_cons, List.all_nil, Bool.true_and, Kd.isRo, List.size_toArray, List.toList_toArray, bldV, Nat.reduceLeDiff, Int.reduceMul, Int.reduceAdd, Int.reduceSub, Int.reduceToNat, maxLen_eq, zeros_one, appS_some, appV_n, appV_v, appH_t, appH_f, Kd.isEx, Bool.false_and, partV, Nat.add_zero, Int.toNat_natCast, hb4]) | (with_reducible refine condK_dec (fun _ => ?_) (fun _ => ?_)) | (with_reducible refine grd_dec (fun _ => ?_) (fun _ => ?_)) | (with_reducible refine egrd_dec (fun _ => ?_) (fun _ => ?_)))
    refine (rright_wp (hw.good hE4) top h1 h2 (by omega) hsa4).mono fun v K5 ⟨hv, hx5⟩ => ?_
    rw [hrt] at hv
    subst hv
    repeat' (first | (simp (disch := first | omega | (decide +kernel) | (repeat (first | assumption | exact HExt.refl _ | (refine HExt.set ?_ (by first | omega | (simp only [new_nx, set_nx]; omega)) _) | (refine HExt.new ?_ _)))) only [↓RD, RU, accW_t, accW_f, isW, ↓putF_get, ↓putF_none, ↓evF_t, ↓evF_c, ↓evF_f, new_nx, set_nx, new_get, set_get, getD_zero, getD_succ, u_not, pop, lop, aop, wop, resL, resV, tupleV, akV, isVal, isCell, Value.cells, List.map_cons, List.map_nil, Bool.not_true, Bool.not_false, Option.map_some, ↓reduceIte, Nat.reduceEqDiff, Nat.reduceAdd, Int.reduceOfNat, Int.reduceNegSucc, reduceCtorEq, List.getElem?_cons_zero, List.getElem?_cons_succ, List.length_cons, List.length_nil, srcR_c, src_n, src_v, src_s, bnd, lenV, capV, Option.isSome_none, Option.isNone_none, Option.isSome_some, Option.isNone_some, Bool.true_or, Bool.false_or, List.take_succ_cons, List.take_zero, List.drop_succ_cons, List.drop_zero, List.cons_append, List.nil_append, List.drop_nil, List.all_cons, List.all_nil, Bool.true_and, Kd.isRo, List.size_toArray, List.toList_toArray, bldV, Nat.reduceLeDiff, Int.reduceMul, Int.reduceAdd, Int.reduceSub, Int.reduceToNat, maxLen_eq, zeros_one, appS_some, appV_n, appV_v, appH_t, appH_f, Kd.isEx, Bool.false_and, partV, Nat.add_zero, Int.toNat_natCast]) | (with_reducible refine condK_dec (fun _ => ?_) (fun _ => ?_)) | (with_reducible refine grd_dec (fun _ => ?_) (fun _ => ?_)) | (with_reducible refine egrd_dec (fun _ => ?_) (fun _ => ?_)))
  have hNF := new_form (roots := all) hF hu
  have hcl : (colL ws all ls).length = ws.length := colL_len
  have hPt := Pk_lt (roots := all) hF (Nat.le_refl ls.length)
  have hWwf := colL_wf (roots := all) hF hu
  have hNu : ∀ x ∈ colL ws all ls, 0 ≤ x ∧ x < 18446744073709551616 := fun x hx => u64_wf (hWwf x hx)
  have hff := form_mk hNu hNF
  have hnrt := new_rt hF hrk
  have hul : (all.map (turnF ws all ls)).length = all.length := by simp
  have htwf := turn_wf hF hrk hua
  have htu : ∀ x ∈ all.map (turnF ws all ls), 0 ≤ x ∧ x < 18446744073709551616 := fun x hx => u64_wf (htwf x hx)
  have hrtN := rt_mk hNF htu hff hnrt
  have hsmt : (all.map (turnF ws all ls)).take sm.length = sm.map (turnF ws all ls) := by
    rw [← List.map_take, ← hall, List.take_left']
    rfl
  obtain ⟨q, cq, q', cq', rfl, hr4, hcut, hr4', hq'⟩ := grw_cut hG (n := sm.length) (by omega) (by omega) htwf
  rw [hsmt] at hr4'
  rw [hul] at hcut
  have hr4b := hr4.2
  rw [hul] at hr4b
  have hpw : K3.nx < K4.nx := by omega
  repeat' (first | (simp (disch := first | omega | (decide +kernel) | (repeat (first | assumption | exact HExt.refl _ | (refine HExt.set ?_ (by first | omega | (simp only [new_nx, set_nx]; omega)) _) | (refine HExt.new ?_ _)))) only [↓RD, RU, accW_t, accW_f, isW, ↓putF_get, ↓putF_none, ↓evF_t, ↓evF_c, ↓evF_f, new_nx, set_nx, new_get, set_get, getD_zero, getD_succ, u_not, pop, lop, aop, wop, resL, resV, tupleV, akV, isVal, isCell, Value.cells, List.map_cons, List.map_nil, Bool.not_true, Bool.not_false, Option.map_some, ↓reduceIte, Nat.reduceEqDiff, Nat.reduceAdd, Int.reduceOfNat, Int.reduceNegSucc, reduceCtorEq, List.getElem?_cons_zero, List.getElem?_cons_succ, List.length_cons, List.length_nil, srcR_c, src_n, src_v, src_s, bnd, lenV, capV, Option.isSome_none, Option.isNone_none, Option.isSome_some, Option.isNone_some, Bool.true_or, Bool.false_or, List.take_succ_cons, List.take_zero, List.drop_succ_cons, List.drop_zero, List.cons_append, List.nil_append, List.drop_nil, List.all_cons, List.all_nil, Bool.true_and, Kd.isRo, List.size_toArray, List.toList_toArray, bldV, Nat.reduceLeDiff, Int.reduceMul, Int.reduceAdd, Int.reduceSub, Int.reduceToNat, maxLen_eq, zeros_one, appS_some, appV_n, appV_v, appH_t, appH_f, Kd.isEx, Bool.false_and, partV, Nat.add_zero, Int.toNat_natCast, hm4]) | (with_reducible refine condK_dec (fun _ => ?_) (fun _ => ?_)) | (with_reducible refine grd_dec (fun _ => ?_) (fun _ => ?_)) | (with_reducible refine egrd_dec (fun _ => ?_) (fun _ => ?_)))
  have hW4 := words_own (show l < K4.nx by omega) hob4 (c := c') (by omega) (by rw [maxLen_eq]; exact hc2) hWwf
  have hcp := rcopy_wp hW4 (Pk ws all ls ls.length) (by omega)
  rw [hcl] at hcp
  refine hcp.mono fun v K5 ⟨hx5, l2, c3, kd3, hv, hl3, hl4, hob5, hro5, hc3, hc4⟩ => ?_
  subst hv
  have hn5 := hx5.nx
  repeat' (first | (simp (disch := first | omega | (decide +kernel) | (repeat (first | assumption | exact HExt.refl _ | (refine HExt.set ?_ (by first | omega | (simp only [new_nx, set_nx]; omega)) _) | (refine HExt.new ?_ _)))) only [↓RD, RU, accW_t, accW_f, isW, ↓putF_get, ↓putF_none, ↓evF_t, ↓evF_c, ↓evF_f, new_nx, set_nx, new_get, set_get, getD_zero, getD_succ, u_not, pop, lop, aop, wop, resL, resV, tupleV, akV, isVal, isCell, Value.cells, List.map_cons, List.map_nil, Bool.not_true, Bool.not_false, Option.map_some, ↓reduceIte, Nat.reduceEqDiff, Nat.reduceAdd, Int.reduceOfNat, Int.reduceNegSucc, reduceCtorEq, List.getElem?_cons_zero, List.getElem?_cons_succ, List.length_cons, List.length_nil, srcR_c, src_n, src_v, src_s, bnd, lenV, capV, Option.isSome_none, Option.isNone_none, Option.isSome_some, Option.isNone_some, Bool.true_or, Bool.false_or, List.take_succ_cons, List.take_zero, List.drop_succ_cons, List.drop_zero, List.cons_append, List.nil_append, List.drop_nil, List.all_cons, List.all_nil, Bool.true_and, Kd.isRo, List.size_toArray, List.toList_toArray, bldV, Nat.reduceLeDiff, Int.reduceMul, Int.reduceAdd, Int.reduceSub, Int.reduceToNat, maxLen_eq, zeros_one, appS_some, appV_n, appV_v, appH_t, appH_f, Kd.isEx, Bool.false_and, partV, Nat.add_zero, Int.toNat_natCast]) | (with_reducible refine condK_dec (fun _ => ?_) (fun _ => ?_)) | (with_reducible refine grd_dec (fun _ => ?_) (fun _ => ?_)) | (with_reducible refine egrd_dec (fun _ => ?_) (fun _ => ?_)))
  have hcc := coll_copy (H := K4) (c' := c3) (top := (Pk ws all ls ls.length : Int)) hx5 hl3 hl4 hob5 hro5 (by omega) hc4 hNu (by omega) (by omega) hr4.1 (by omega)
  rw [hcl, hul] at hcc
  refine hcc.mono fun v K6 ⟨hE46, hn6, ho6, hv⟩ => ?_
  rcases hv with ⟨hrt', _⟩ | ⟨_, tn', ls', u', htn, hF', hrk', hf', rfl, hG6, hob6, hm6⟩
  · rw [hrtN] at hrt'; cases hrt'
  obtain rfl := intsN_inj (Option.some.inj (hff.symm.trans hf'))
  rw [two_roots hF hu hrk (fun w h => h)] at hG6
  rw [two_colL hF hu hrk (fun w h => h)] at hob6
  rw [two_Pk hF hrk (fun w h => h)] at hm6
  obtain ⟨q6, c6, rfl, s6⟩ := hG6.sl (by omega) htwf
  have hm6c := (ho6 K3.nx (by omega) (by omega)).trans ((hx5.ob _ (by omega)).trans hm4)
  have hob6c := (ho6 l (by omega) (by omega)).trans ((hx5.ob _ (by omega)).trans hob4)
  have hb6 := (ho6 H.nx (by omega) (by omega)).trans ((hx5.ob _ (by omega)).trans hb4)
  repeat' (first | (simp (disch := first | omega | (decide +kernel) | (repeat (first | assumption | exact HExt.refl _ | (refine HExt.set ?_ (by first | omega | (simp only [new_nx, set_nx]; omega)) _) | (refine HExt.new ?_ _)))) only [↓RD, RU, accW_t, accW_f, isW, ↓putF_get, ↓putF_none, ↓evF_t, ↓evF_c, ↓evF_f, new_nx, set_nx, new_get, set_get, getD_zero, getD_succ, u_not, pop, lop, aop, wop, resL, resV, tupleV, akV, isVal, isCell, Value.cells, List.map_cons, List.map_nil, Bool.not_true, Bool.not_false, Option.map_some, ↓reduceIte, Nat.reduceEqDiff, Nat.reduceAdd, Int.reduceOfNat, Int.reduceNegSucc, reduceCtorEq, List.getElem?_cons_zero, List.getElem?_cons_succ, List.length_cons, List.length_nil, srcR_c, src_n, src_v, src_s, bnd, lenV, capV, Option.isSome_none, Option.isNone_none, Option.isSome_some, Option.isNone_some, Bool.true_or, Bool.false_or, List.take_succ_cons, List.take_zero, List.drop_succ_cons, List.drop_zero, List.cons_append, List.nil_append, List.drop_nil, List.all_cons, List.all_nil, Bool.true_and, Kd.isRo, List.size_toArray, List.toList_toArray, bldV, Nat.reduceLeDiff, Int.reduceMul, Int.reduceAdd, Int.reduceSub, Int.reduceToNat, maxLen_eq, zeros_one, appS_some, appV_n, appV_v, appH_t, appH_f, Kd.isEx, Bool.false_and, partV, Nat.add_zero, Int.toNat_natCast, hm6, hm6c]) | (with_reducible refine condK_dec (fun _ => ?_) (fun _ => ?_)) | (with_reducible refine grd_dec (fun _ => ?_) (fun _ => ?_)) | (with_reducible refine egrd_dec (fun _ => ?_) (fun _ => ?_)))
  have hWc := words_own (show l < K6.nx by omega) hob6c (c := c') (by omega) (by rw [maxLen_eq]; exact hc2) hWwf
  have hWd := words_own (show l2 < K6.nx by omega) hob6 (c := c3) (by omega) (by rw [maxLen_eq]; exact hc4) hWwf
  have hsm := rsame_wp hWc.1 hWd.1 (Pk ws all ls ls.length) (Pk ws all ls ls.length) (by omega) (by omega)
  rw [hcl, decide_eq_true ⟨rfl, rfl⟩] at hsm
  refine hsm.mono fun v K7 ⟨hv, hx7⟩ => ?_
  subst hv
  have hn7 := hx7.nx
  have hE47 := hE46.trans hx7
  repeat' (first | (simp (disch := first | omega | (decide +kernel) | (repeat (first | assumption | exact HExt.refl _ | (refine HExt.set ?_ (by first | omega | (simp only [new_nx, set_nx]; omega)) _) | (refine HExt.new ?_ _)))) only [↓RD, RU, accW_t, accW_f, isW, ↓putF_get, ↓putF_none, ↓evF_t, ↓evF_c, ↓evF_f, new_nx, set_nx, new_get, set_get, getD_zero, getD_succ, u_not, pop, lop, aop, wop, resL, resV, tupleV, akV, isVal, isCell, Value.cells, List.map_cons, List.map_nil, Bool.not_true, Bool.not_false, Option.map_some, ↓reduceIte, Nat.reduceEqDiff, Nat.reduceAdd, Int.reduceOfNat, Int.reduceNegSucc, reduceCtorEq, List.getElem?_cons_zero, List.getElem?_cons_succ, List.length_cons, List.length_nil, srcR_c, src_n, src_v, src_s, bnd, lenV, capV, Option.isSome_none, Option.isNone_none, Option.isSome_some, Option.isNone_some, Bool.true_or, Bool.false_or, List.take_succ_cons, List.take_zero, List.drop_succ_cons, List.drop_zero, List.cons_append, List.nil_append, List.drop_nil, List.all_cons, List.all_nil, Bool.true_and, Kd.isRo, List.size_toArray, List.toList_toArray, bldV, Nat.reduceLeDiff, Int.reduceMul, Int.reduceAdd, Int.reduceSub, Int.reduceToNat, maxLen_eq, zeros_one, appS_some, appV_n, appV_v, appH_t, appH_f, Kd.isEx, Bool.false_and, partV, Nat.add_zero, Int.toNat_natCast]) | (with_reducible refine condK_dec (fun _ => ?_) (fun _ => ?_)) | (with_reducible refine grd_dec (fun _ => ?_) (fun _ => ?_)) | (with_reducible refine egrd_dec (fun _ => ?_) (fun _ => ?_)))
  have hsw := samew_wp (s6.good (CInt.good _) hx7) (hr4.good hE47).1 (by omega)
  rw [hul] at hsw
  refine hsw.mono fun v K7' ⟨hv, hK⟩ => ?_
  subst hv hK
  have hm7 := (hx7.ob K5.nx (by omega)).trans hm6
  have hob7 := (hx7.ob l2 (by omega)).trans hob6
  have hb7 := (hx7.ob H.nx (by omega)).trans hb6
  have hok := (hr4.good hE47).2
  rw [hul] at hok
  repeat' (first | (simp (disch := first | omega | (decide +kernel) | (repeat (first | assumption | exact HExt.refl _ | (refine HExt.set ?_ (by first | omega | (simp only [new_nx, set_nx]; omega)) _) | (refine HExt.new ?_ _)))) only [↓RD, RU, accW_t, accW_f, isW, ↓putF_get, ↓putF_none, ↓evF_t, ↓evF_c, ↓evF_f, new_nx, set_nx, new_get, set_get, getD_zero, getD_succ, u_not, pop, lop, aop, wop, resL, resV, tupleV, akV, isVal, isCell, Value.cells, List.map_cons, List.map_nil, Bool.not_true, Bool.not_false, Option.map_some, ↓reduceIte, Nat.reduceEqDiff, Nat.reduceAdd, Int.reduceOfNat, Int.reduceNegSucc, reduceCtorEq, List.getElem?_cons_zero, List.getElem?_cons_succ, List.length_cons, List.length_nil, srcR_c, src_n, src_v, src_s, bnd, lenV, capV, Option.isSome_none, Option.isNone_none, Option.isSome_some, Option.isNone_some, Bool.true_or, Bool.false_or, List.take_succ_cons, List.take_zero, List.drop_succ_cons, List.drop_zero, List.cons_append, List.nil_append, List.drop_nil, List.all_cons, List.all_nil, Bool.true_and, Kd.isRo, List.size_toArray, List.toList_toArray, bldV, Nat.reduceLeDiff, Int.reduceMul, Int.reduceAdd, Int.reduceSub, Int.reduceToNat, maxLen_eq, zeros_one, appS_some, appV_n, appV_v, appH_t, appH_f, Kd.isEx, Bool.false_and, partV, Nat.add_zero, Int.toNat_natCast, hok, hcut]) | (with_reducible refine condK_dec (fun _ => ?_) (fun _ => ?_)) | (with_reducible refine grd_dec (fun _ => ?_) (fun _ => ?_)) | (with_reducible refine egrd_dec (fun _ => ?_) (fun _ => ?_)))
  have hwr := (hr4'.good hE47).1
  have hsl2 : (sm.map (turnF ws all ls)).length = sm.length := by simp
  have hcw := collect_wp (pm := K5.nx) (n := ws.length) (Pk ws all ls ls.length) hm7 hob7 hro5 (by omega) (by omega) (by omega) (by omega) (by omega) (by omega) hWwf (by omega) (by omega) hwr (fun lo o e => by have := (hq' lo o e); omega) (by omega)
  rw [hsl2] at hcw
  refine hcw.mono fun v K8 ⟨hn8, ho8, hv⟩ => ?_
  have hrts := rt_mk hNF (fun x hx => by
    obtain ⟨w, hw', rfl⟩ := List.mem_map.1 hx
    exact htu _ (List.mem_map_of_mem (hsub w hw'))) hff (fun x hx => by
    obtain ⟨w, hw', rfl⟩ := List.mem_map.1 hx
    exact hnrt _ (List.mem_map_of_mem (hsub w hw')) : RtOk (newL ws all ls) (sm.map (turnF ws all ls)))
  rcases hv with ⟨hrt', _⟩ | ⟨_, ls', u8, hf', rfl, hG8, hob8, hm8⟩
  · rw [hrts] at hrt'; cases hrt'
  obtain rfl := intsN_inj (Option.some.inj (hff.symm.trans hf'))
  rw [two_roots hF hu hrk hsub] at hG8
  rw [← hcl, colL_row, two_colL hF hu hrk hsub] at hob8
  rw [two_Pk hF hrk hsub] at hm8
  have hE8 : HExt K4 K8 := ⟨by omega, fun y hy => (ho8 y (by omega) (by omega) (by omega)).trans (hE47.ob y hy)⟩
  have hE08 : HExt H K8 := hE4.trans hE8
  have hb8 := (ho8 H.nx (by omega) (by omega) (by omega)).trans hb7
  repeat' (first | (simp (disch := first | omega | (decide +kernel) | (repeat (first | assumption | exact HExt.refl _ | (refine HExt.set ?_ (by first | omega | (simp only [new_nx, set_nx]; omega)) _) | (refine HExt.new ?_ _)))) only [↓RD, RU, accW_t, accW_f, isW, ↓putF_get, ↓putF_none, ↓evF_t, ↓evF_c, ↓evF_f, new_nx, set_nx, new_get, set_get, getD_zero, getD_succ, u_not, pop, lop, aop, wop, resL, resV, tupleV, akV, isVal, isCell, Value.cells, List.map_cons, List.map_nil, Bool.not_true, Bool.not_false, Option.map_some, ↓reduceIte, Nat.reduceEqDiff, Nat.reduceAdd, Int.reduceOfNat, Int.reduceNegSucc, reduceCtorEq, List.getElem?_cons_zero, List.getElem?_cons_succ, List.length_cons, List.length_nil, srcR_c, src_n, src_v, src_s, bnd, lenV, capV, Option.isSome_none, Option.isNone_none, Option.isSome_some, Option.isNone_some, Bool.true_or, Bool.false_or, List.take_succ_cons, List.take_zero, List.drop_succ_cons, List.drop_zero, List.cons_append, List.nil_append, List.drop_nil, List.all_cons, List.all_nil, Bool.true_and, Kd.isRo, List.size_toArray, List.toList_toArray, bldV, Nat.reduceLeDiff, Int.reduceMul, Int.reduceAdd, Int.reduceSub, Int.reduceToNat, maxLen_eq, zeros_one, appS_some, appV_n, appV_v, appH_t, appH_f, Kd.isEx, Bool.false_and, partV, Nat.add_zero, Int.toNat_natCast, hb8]) | (with_reducible refine condK_dec (fun _ => ?_) (fun _ => ?_)) | (with_reducible refine grd_dec (fun _ => ?_) (fun _ => ?_)) | (with_reducible refine egrd_dec (fun _ => ?_) (fun _ => ?_)))
  refine (rcopy_wp (hw.good hE08) tn h5).mono fun v K9 ⟨hx9, l3, c5, kd5, hv, hl5, hl6, hob9, hro9, hc5, hc6⟩ => ?_
  subst hv
  have hn9 := hx9.nx
  repeat' (first | (simp (disch := first | omega | (decide +kernel) | (repeat (first | assumption | exact HExt.refl _ | (refine HExt.set ?_ (by first | omega | (simp only [new_nx, set_nx]; omega)) _) | (refine HExt.new ?_ _)))) only [↓RD, RU, accW_t, accW_f, isW, ↓putF_get, ↓putF_none, ↓evF_t, ↓evF_c, ↓evF_f, new_nx, set_nx, new_get, set_get, getD_zero, getD_succ, u_not, pop, lop, aop, wop, resL, resV, tupleV, akV, isVal, isCell, Value.cells, List.map_cons, List.map_nil, Bool.not_true, Bool.not_false, Option.map_some, ↓reduceIte, Nat.reduceEqDiff, Nat.reduceAdd, Int.reduceOfNat, Int.reduceNegSucc, reduceCtorEq, List.getElem?_cons_zero, List.getElem?_cons_succ, List.length_cons, List.length_nil, srcR_c, src_n, src_v, src_s, bnd, lenV, capV, Option.isSome_none, Option.isNone_none, Option.isSome_some, Option.isNone_some, Bool.true_or, Bool.false_or, List.take_succ_cons, List.take_zero, List.drop_succ_cons, List.drop_zero, List.cons_append, List.nil_append, List.drop_nil, List.all_cons, List.all_nil, Bool.true_and, Kd.isRo, List.size_toArray, List.toList_toArray, bldV, Nat.reduceLeDiff, Int.reduceMul, Int.reduceAdd, Int.reduceSub, Int.reduceToNat, maxLen_eq, zeros_one, appS_some, appV_n, appV_v, appH_t, appH_f, Kd.isEx, Bool.false_and, partV, Nat.add_zero, Int.toNat_natCast]) | (with_reducible refine condK_dec (fun _ => ?_) (fun _ => ?_)) | (with_reducible refine grd_dec (fun _ => ?_) (fun _ => ?_)) | (with_reducible refine egrd_dec (fun _ => ?_) (fun _ => ?_)))
  refine (coll_copy (H := K8) hx9 hl5 hl6 hob9 hro9 hc5 hc6 hu h1 h2 (hs.good (CInt.good _) hE08) (by omega)).mono fun v K10 ⟨hE810, hn10, ho10, hv⟩ => ?_
  have hrsm := rt_mk hF hus hf (fun w h => hrk w (hsub w h))
  rcases hv with ⟨hrt', _⟩ | ⟨_, tn', ls', u10, htn', hF', hrk', hf', rfl, hG10, hob10, hm10⟩
  · rw [hrsm] at hrt'; cases hrt'
  obtain rfl := intsN_inj (Option.some.inj (hf.symm.trans hf'))
  have hSwf := colL_wf (roots := sm) hF hu
  have hcl2 : (colL ws sm ls).length = ws.length := colL_len
  have hswf := turn_wf (roots := sm) hF (fun w h => hrk w (hsub w h)) hus
  have hsl3 : (sm.map (turnF ws sm ls)).length = sm.length := by simp
  obtain ⟨q8, c8, rfl, s8⟩ := hG8.sl (by omega) hswf
  obtain ⟨q10, c10, rfl, s10⟩ := hG10.sl (by omega) hswf
  have hm10d := (ho10 K5.nx (by omega) (by omega)).trans ((hx9.ob _ (by omega)).trans hm8)
  have hob10d := (ho10 l2 (by omega) (by omega)).trans ((hx9.ob _ (by omega)).trans hob8)
  repeat' (first | (simp (disch := first | omega | (decide +kernel) | (repeat (first | assumption | exact HExt.refl _ | (refine HExt.set ?_ (by first | omega | (simp only [new_nx, set_nx]; omega)) _) | (refine HExt.new ?_ _)))) only [↓RD, RU, accW_t, accW_f, isW, ↓putF_get, ↓putF_none, ↓evF_t, ↓evF_c, ↓evF_f, new_nx, set_nx, new_get, set_get, getD_zero, getD_succ, u_not, pop, lop, aop, wop, resL, resV, tupleV, akV, isVal, isCell, Value.cells, List.map_cons, List.map_nil, Bool.not_true, Bool.not_false, Option.map_some, ↓reduceIte, Nat.reduceEqDiff, Nat.reduceAdd, Int.reduceOfNat, Int.reduceNegSucc, reduceCtorEq, List.getElem?_cons_zero, List.getElem?_cons_succ, List.length_cons, List.length_nil, srcR_c, src_n, src_v, src_s, bnd, lenV, capV, Option.isSome_none, Option.isNone_none, Option.isSome_some, Option.isNone_some, Bool.true_or, Bool.false_or, List.take_succ_cons, List.take_zero, List.drop_succ_cons, List.drop_zero, List.cons_append, List.nil_append, List.drop_nil, List.all_cons, List.all_nil, Bool.true_and, Kd.isRo, List.size_toArray, List.toList_toArray, bldV, Nat.reduceLeDiff, Int.reduceMul, Int.reduceAdd, Int.reduceSub, Int.reduceToNat, maxLen_eq, zeros_one, appS_some, appV_n, appV_v, appH_t, appH_f, Kd.isEx, Bool.false_and, partV, Nat.add_zero, Int.toNat_natCast, hm10, hm10d]) | (with_reducible refine condK_dec (fun _ => ?_) (fun _ => ?_)) | (with_reducible refine grd_dec (fun _ => ?_) (fun _ => ?_)) | (with_reducible refine egrd_dec (fun _ => ?_) (fun _ => ?_)))
  have hW1 := words_own (show l2 < K10.nx by omega) hob10d (c := c3) (by omega) (by rw [maxLen_eq]; exact hc4) hSwf
  have hW2 := words_own (show l3 < K10.nx by omega) hob10 (c := c5) (by omega) (by rw [maxLen_eq]; exact hc6) hSwf
  have hsf := rsame_wp hW1.1 hW2.1 (Pk ws sm ls ls.length) (Pk ws sm ls ls.length) (by omega) (by omega)
  rw [hcl2, decide_eq_true ⟨rfl, rfl⟩] at hsf
  refine hsf.mono fun v K11 ⟨hv, hx11⟩ => ?_
  subst hv
  repeat' (first | (simp (disch := first | omega | (decide +kernel) | (repeat (first | assumption | exact HExt.refl _ | (refine HExt.set ?_ (by first | omega | (simp only [new_nx, set_nx]; omega)) _) | (refine HExt.new ?_ _)))) only [↓RD, RU, accW_t, accW_f, isW, ↓putF_get, ↓putF_none, ↓evF_t, ↓evF_c, ↓evF_f, new_nx, set_nx, new_get, set_get, getD_zero, getD_succ, u_not, pop, lop, aop, wop, resL, resV, tupleV, akV, isVal, isCell, Value.cells, List.map_cons, List.map_nil, Bool.not_true, Bool.not_false, Option.map_some, ↓reduceIte, Nat.reduceEqDiff, Nat.reduceAdd, Int.reduceOfNat, Int.reduceNegSucc, reduceCtorEq, List.getElem?_cons_zero, List.getElem?_cons_succ, List.length_cons, List.length_nil, srcR_c, src_n, src_v, src_s, bnd, lenV, capV, Option.isSome_none, Option.isNone_none, Option.isSome_some, Option.isNone_some, Bool.true_or, Bool.false_or, List.take_succ_cons, List.take_zero, List.drop_succ_cons, List.drop_zero, List.cons_append, List.nil_append, List.drop_nil, List.all_cons, List.all_nil, Bool.true_and, Kd.isRo, List.size_toArray, List.toList_toArray, bldV, Nat.reduceLeDiff, Int.reduceMul, Int.reduceAdd, Int.reduceSub, Int.reduceToNat, maxLen_eq, zeros_one, appS_some, appV_n, appV_v, appH_t, appH_f, Kd.isEx, Bool.false_and, partV, Nat.add_zero, Int.toNat_natCast]) | (with_reducible refine condK_dec (fun _ => ?_) (fun _ => ?_)) | (with_reducible refine grd_dec (fun _ => ?_) (fun _ => ?_)) | (with_reducible refine egrd_dec (fun _ => ?_) (fun _ => ?_)))
  have hsw2 := samew_wp (s8.good (CInt.good _) (hE810.trans hx11)) (s10.good (CInt.good _) hx11) (by omega)
  rw [hsl3] at hsw2
  refine hsw2.mono fun v K12 ⟨hv, hK⟩ => ?_
  subst hv
  repeat' (first | (simp (disch := first | omega | (decide +kernel) | (repeat (first | assumption | exact HExt.refl _ | (refine HExt.set ?_ (by first | omega | (simp only [new_nx, set_nx]; omega)) _) | (refine HExt.new ?_ _)))) only [↓RD, RU, accW_t, accW_f, isW, ↓putF_get, ↓putF_none, ↓evF_t, ↓evF_c, ↓evF_f, new_nx, set_nx, new_get, set_get, getD_zero, getD_succ, u_not, pop, lop, aop, wop, resL, resV, tupleV, akV, isVal, isCell, Value.cells, List.map_cons, List.map_nil, Bool.not_true, Bool.not_false, Option.map_some, ↓reduceIte, Nat.reduceEqDiff, Nat.reduceAdd, Int.reduceOfNat, Int.reduceNegSucc, reduceCtorEq, List.getElem?_cons_zero, List.getElem?_cons_succ, List.length_cons, List.length_nil, srcR_c, src_n, src_v, src_s, bnd, lenV, capV, Option.isSome_none, Option.isNone_none, Option.isSome_some, Option.isNone_some, Bool.true_or, Bool.false_or, List.take_succ_cons, List.take_zero, List.drop_succ_cons, List.drop_zero, List.cons_append, List.nil_append, List.drop_nil, List.all_cons, List.all_nil, Bool.true_and, Kd.isRo, List.size_toArray, List.toList_toArray, bldV, Nat.reduceLeDiff, Int.reduceMul, Int.reduceAdd, Int.reduceSub, Int.reduceToNat, maxLen_eq, zeros_one, appS_some, appV_n, appV_v, appH_t, appH_f, Kd.isEx, Bool.false_and, partV, Nat.add_zero, Int.toNat_natCast]) | (with_reducible refine condK_dec (fun _ => ?_) (fun _ => ?_)) | (with_reducible refine grd_dec (fun _ => ?_) (fun _ => ?_)) | (with_reducible refine egrd_dec (fun _ => ?_) (fun _ => ?_)))
end Can
end Go.Proofs.Ytjgigomeneddpaa
