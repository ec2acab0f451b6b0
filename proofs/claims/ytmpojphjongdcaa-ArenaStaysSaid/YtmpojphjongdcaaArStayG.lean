/- Arena: lists beside a memory that turns; a list's beginning. -/
import Derived.Test.YtmpojphjongdcaaArStayF
namespace Go.Proofs.Ytmpojphjongdcaa
namespace Can
open Go Go.RowKit
set_option linter.unusedSimpArgs false
set_option linter.unusedVariables false
set_option maxRecDepth 4000
theorem same_nil {H : CH} {p q : Option Addr} {c d : Nat} :
    WpF (tbl Try.prog) 16 [.slice p 0 c, .slice q 0 d] H fun v K => v = .bool true ∧ K = H := by
  refine wpF_rF (by kernel_rfl) ?_; (conv in (rF _ _).body => reduce); (conv in (rF _ _).res => reduce)
  repeat' (first | (simp (disch := first | omega | (decide +kernel) | (repeat (first | assumption | exact HExt.refl _ | (refine HExt.set ?_ (by first | omega | (simp only [new_nx, set_nx]; omega)) _) | (refine HExt.new ?_ _)))) only [↓RD, RU, accW_t, accW_f, isW, ↓putF_get, ↓putF_none, ↓evF_t, ↓evF_c, ↓evF_f, new_nx, set_nx, new_get, set_get, getD_zero, getD_succ, u_not, pop, lop, aop, wop, resL, resV, tupleV, akV, isVal, isCell, Value.cells, List.map_cons, List.map_nil, Bool.not_true, Bool.not_false, Option.map_some, ↓reduceIte, Nat.reduceEqDiff, Nat.reduceAdd, Int.reduceOfNat, Int.reduceNegSucc, reduceCtorEq, List.getElem?_cons_zero, List.getElem?_cons_succ, List.length_cons, List.length_nil, srcR_c, src_n, src_v, src_s, bnd, lenV, capV, Option.isSome_none, Option.isNone_none, Option.isSome_some, Option.isNone_some, Bool.true_or, Bool.false_or, List.take_succ_cons, List.take_zero, List.drop_succ_cons, List.drop_zero, List.cons_append, List.nil_append, List.drop_nil, List.all_cons, List.all_nil, Bool.true_and, Kd.isRo, List.size_toArray, List.toList_toArray, bldV, Nat.reduceLeDiff, Int.reduceMul, Int.reduceAdd, Int.reduceSub, Int.reduceToNat, maxLen_eq, zeros_one, appS_some, appV_n, appV_v, appH_t, appH_f, Kd.isEx, Bool.false_and, partV, Nat.add_zero, Int.toNat_natCast]) | (with_reducible refine condK_dec (fun _ => ?_) (fun _ => ?_)) | (with_reducible refine grd_dec (fun _ => ?_) (fun _ => ?_)) | (with_reducible refine egrd_dec (fun _ => ?_) (fun _ => ?_)))
  refine loop_inv (fun m fr K => fr 0 = .slice p 0 c ∧ fr 5 = .int .i64 0 ∧ K = H) ?_ (n := 1) ⟨by repeat' (first | (simp (disch := first | omega | (decide +kernel) | (repeat (first | assumption | exact HExt.refl _ | (refine HExt.set ?_ (by first | omega | (simp only [new_nx, set_nx]; omega)) _) | (refine HExt.new ?_ _)))) only [↓RD, RU, accW_t, accW_f, isW, ↓putF_get, ↓putF_none, ↓evF_t, ↓evF_c, ↓evF_f, new_nx, set_nx, new_get, set_get, getD_zero, getD_succ, u_not, pop, lop, aop, wop, resL, resV, tupleV, akV, isVal, isCell, Value.cells, List.map_cons, List.map_nil, Bool.not_true, Bool.not_false, Option.map_some, ↓reduceIte, Nat.reduceEqDiff, Nat.reduceAdd, Int.reduceOfNat, Int.reduceNegSucc, reduceCtorEq, List.getElem?_cons_zero, List.getElem?_cons_succ, List.length_cons, List.length_nil, srcR_c, src_n, src_v, src_s, bnd, lenV, capV, Option.isSome_none, Option.isNone_none, Option.isSome_some, Option.isNone_some, Bool.true_or, Bool.false_or, List.take_succ_cons, List.take_zero, List.drop_succ_cons, List.drop_zero, List.cons_append, List.nil_append, List.drop_nil, List.all_cons, List.all_nil, Bool.true_and, Kd.isRo, List.size_toArray, List.toList_toArray, bldV, Nat.reduceLeDiff, Int.reduceMul, Int.reduceAdd, Int.reduceSub, Int.reduceToNat, maxLen_eq, zeros_one, appS_some, appV_n, appV_v, appH_t, appH_f, Kd.isEx, Bool.false_and, partV, Nat.add_zero, Int.toNat_natCast]) | (with_reducible refine condK_dec (fun _ => ?_) (fun _ => ?_)) | (with_reducible refine grd_dec (fun _ => ?_) (fun _ => ?_)) | (with_reducible refine egrd_dec (fun _ => ?_) (fun _ => ?_))), by repeat' (first | (simp (disch := first | omega | (decide +kernel) | (repeat (first | assumption | exact HExt.refl _ | (refine HExt.set ?_ (by first | omega | (simp only [new_nx, set_nx]; omega)) _) | (refine HExt.new ?_ _)))) only [↓RD, RU, accW_t, accW_f, isW, ↓putF_get, ↓putF_none, ↓evF_t, ↓evF_c, ↓evF_f, new_nx, set_nx, new_get, set_get, getD_zero, getD_succ, u_not, pop, lop, aop, wop, resL, resV, tupleV, akV, isVal, isCell, Value.cells, List.map_cons, List.map_nil, Bool.not_true, Bool.not_false, Option.map_some, ↓reduceIte, Nat.reduceEqDiff, Nat.reduceAdd, Int.reduceOfNat, Int.reduceNegSucc, reduceCtorEq, List.getElem?_cons_zero, List.getElem?_cons_succ, List.length_cons, List.length_nil, srcR_c, src_n, src_v, src_s, bnd, lenV, capV, Option.isSome_none, Option.isNone_none, Option.isSome_some, Option.isNone_some, Bool.true_or, Bool.false_or, List.take_succ_cons, List.take_zero, List.drop_succ_cons, List.drop_zero, List.cons_append, List.nil_append, List.drop_nil, List.all_cons, List.all_nil, Bool.true_and, Kd.isRo, List.size_toArray, List.toList_toArray, bldV, Nat.reduceLeDiff, Int.reduceMul, Int.reduceAdd, Int.reduceSub, Int.reduceToNat, maxLen_eq, zeros_one, appS_some, appV_n, appV_v, appH_t, appH_f, Kd.isEx, Bool.false_and, partV, Nat.add_zero, Int.toNat_natCast]) | (with_reducible refine condK_dec (fun _ => ?_) (fun _ => ?_)) | (with_reducible refine grd_dec (fun _ => ?_) (fun _ => ?_)) | (with_reducible refine egrd_dec (fun _ => ?_) (fun _ => ?_))), rfl⟩
  rintro m fr K ⟨f0, f5, rfl⟩
  repeat' (first | (simp (disch := first | omega | (decide +kernel) | (repeat (first | assumption | exact HExt.refl _ | (refine HExt.set ?_ (by first | omega | (simp only [new_nx, set_nx]; omega)) _) | (refine HExt.new ?_ _)))) only [↓RD, RU, accW_t, accW_f, isW, ↓putF_get, ↓putF_none, ↓evF_t, ↓evF_c, ↓evF_f, new_nx, set_nx, new_get, set_get, getD_zero, getD_succ, u_not, pop, lop, aop, wop, resL, resV, tupleV, akV, isVal, isCell, Value.cells, List.map_cons, List.map_nil, Bool.not_true, Bool.not_false, Option.map_some, ↓reduceIte, Nat.reduceEqDiff, Nat.reduceAdd, Int.reduceOfNat, Int.reduceNegSucc, reduceCtorEq, List.getElem?_cons_zero, List.getElem?_cons_succ, List.length_cons, List.length_nil, srcR_c, src_n, src_v, src_s, bnd, lenV, capV, Option.isSome_none, Option.isNone_none, Option.isSome_some, Option.isNone_some, Bool.true_or, Bool.false_or, List.take_succ_cons, List.take_zero, List.drop_succ_cons, List.drop_zero, List.cons_append, List.nil_append, List.drop_nil, List.all_cons, List.all_nil, Bool.true_and, Kd.isRo, List.size_toArray, List.toList_toArray, bldV, Nat.reduceLeDiff, Int.reduceMul, Int.reduceAdd, Int.reduceSub, Int.reduceToNat, maxLen_eq, zeros_one, appS_some, appV_n, appV_v, appH_t, appH_f, Kd.isEx, Bool.false_and, partV, Nat.add_zero, Int.toNat_natCast, f0, f5]) | (with_reducible refine condK_dec (fun _ => ?_) (fun _ => ?_)) | (with_reducible refine grd_dec (fun _ => ?_) (fun _ => ?_)) | (with_reducible refine egrd_dec (fun _ => ?_) (fun _ => ?_)))
  all_goals first | rfl | exact ⟨rfl, rfl⟩
/-- A list of numbers below top lies beside the memory. -/
theorem list_apart {K : CH} {mb wb c : Nat} {kd : Kd} {ws : List Int} {top : Int} (h : MS K mb wb c kd ws top) {q : Option Addr} {cc : Nat} {l : List Int} (hl : SlAt 1 (CInt .i64) K q cc l) (hne : l ≠ []) (hlt : ∀ x ∈ l, x < top) : ∀ x o, q = some ⟨x, o, none⟩ → x < K.nx ∧ x ≠ mb ∧ x ≠ wb := by
  have hp : 0 < l.length := List.length_pos_iff.2 hne
  obtain ⟨x, o, os, e, k, rfl, hl1, hc, hm, hob, hol, hos, hwf⟩ := hl.ints hp
  have g0 := hos 0 hp
  have hm0 : l.getD 0 0 < top := by
    rw [List.getD_eq_getElem?_getD, List.getElem?_eq_getElem hp]; exact hlt _ (List.getElem_mem hp)
  intro x' o' e'
  cases e'
  refine ⟨hl1, fun e' => ?_, fun e' => ?_⟩
  · subst e'
    rw [h.hmb] at hob
    cases hob
    match o, g0 with
    | 0, g0 => simp at g0
    | 1, g0 => simp at g0; rw [List.getD_eq_getElem?_getD] at hm0; omega
    | o + 2, g0 => simp at g0
  · subst e'
    rw [h.hwb] at hob
    cases hob
    rw [List.getElem?_map] at g0
    cases hw : ws[o + 0]? with
    | none => rw [hw] at g0; cases g0
    | some y => rw [hw] at g0; cases g0
/-- The beginning of a list. -/
theorem pre_sl {K : CH} {q : Option Addr} {cc : Nat} {l l' : List Int} (hl : SlAt 1 (CInt .i64) K q cc (l ++ l')) (hne : l ≠ []) {e : Nat} :
    ∃ q' c', q = some q' ∧ okSl K e (.slice q (l.length + l'.length) cc) = okSl K e (.slice q (l.length + l'.length) cc) ∧ sliceV 1 (.slice q (l.length + l'.length) cc) 0 (l.length : Int) (cc : Int) false = some (.slice q l.length c') ∧ SlAt 1 (CInt .i64) K q c' l := by
  have hp : 0 < l.length := List.length_pos_iff.2 hne
  rcases hl with ⟨h, _⟩ | ⟨x, o, os, e, k, rfl, h1, h2, h3, h4, h5, h6⟩
  · exact absurd (List.append_eq_nil_iff.1 h).1 hne
  · rw [List.length_append] at h2 h5
    refine ⟨_, cc, rfl, rfl, ?_, .inr ⟨x, o, os, e, k, rfl, h1, by omega, h3, h4, by omega, fun i hi => ?_⟩⟩
    · unfold sliceV
      simp only [Bool.false_eq_true, if_false]
      rw [if_pos (by omega), if_neg (by omega)]
      simp
    · have := h6 i (by rw [List.length_append]; omega)
      rwa [List.getElem_append_left hi] at this
end Can
end Go.Proofs.Ytmpojphjongdcaa
