/- Slide: the law SlideOrder answers true, as a canonical run. -/
import Derived.Test.YtjgigomeneddpaaSlNew
namespace Go.Proofs.Ytjgigomeneddpaa
namespace Can
open Go Go.RowKit
set_option linter.unusedSimpArgs false
set_option linter.unusedVariables false
set_option maxRecDepth 4000
/-- The size of an object of a memory in form. -/
theorem asize_wp {K : CH} {p : Option Addr} {c : Nat} {ws : List Int} {tn : Nat} {ls : List Nat} (hw : Words K p c ws) (hF : Form ws tn ls) {a : Nat} (ha : a ∈ ls) :
    WpF (tblG Try.prog LG GG) 25 [.agg #[.slice p ws.length c, .int .i64 (tn : Int)], .int .i64 (a : Int)] K fun v K' => v = .tuple #[.int .i64 (tgN ws a : Int), .int .i64 ((szN ws a - 2 - tgN ws a : Nat) : Int), .int .i64 0] ∧ HExt K K' := by
  have hsz := isObj_sz (hF.ob a ha)
  have hpt := isObj_parts (hF.ob a ha)
  have hb := obj_lt2 hF ha
  have hlen := hF.len
  have htop := hF.top
  have hok := okH_parts hpt.2.2.2.1
  have htg : hdT (wd ws a) = (tgN ws a : Int) := by unfold tgN; omega
  have hss : hdS (wd ws a) = (szN ws a : Int) := by unfold szN; omega
  refine wpF_rG (by rfl) (by kernel_rfl) ?_; (conv in (rF _ _).body => reduce); (conv in (rF _ _).res => reduce)
  repeat' (first | (simp (disch := first | omega | (decide +kernel) | (repeat (first | assumption | exact HExt.refl _ | (refine HExt.set ?_ (by first | omega | (simp only [new_nx, set_nx]; omega)) _) | (refine HExt.new ?_ _)))) only [↓RD, RU, accW_t, accW_f, isW, ↓putF_get, ↓putF_none, ↓evF_t, ↓evF_c, ↓evF_f, new_nx, set_nx, new_get, set_get, getD_zero, getD_succ, u_not, pop, lop, aop, wop, resL, resV, tupleV, akV, isVal, isCell, Value.cells, List.map_cons, List.map_nil, Bool.not_true, Bool.not_false, Option.map_some, ↓reduceIte, Nat.reduceEqDiff, Nat.reduceAdd, Int.reduceOfNat, Int.reduceNegSucc, reduceCtorEq, List.getElem?_cons_zero, List.getElem?_cons_succ, List.length_cons, List.length_nil, srcR_c, src_n, src_v, src_s, bnd, lenV, capV, Option.isSome_none, Option.isNone_none, Option.isSome_some, Option.isNone_some, Bool.true_or, Bool.false_or, List.take_succ_cons, List.take_zero, List.drop_succ_cons, List.drop_zero, List.cons_append, List.nil_append, List.drop_nil, List.all_cons, List.all_nil, Bool.true_and, Kd.isRo, List.size_toArray, List.toList_toArray, bldV, Nat.reduceLeDiff, Int.reduceMul, Int.reduceAdd, Int.reduceSub, Int.reduceToNat, maxLen_eq, zeros_one, appS_some, appV_n, appV_v, appH_t, appH_f, Kd.isEx, Bool.false_and, partV, Nat.add_zero, Int.toNat_natCast]) | (with_reducible refine condK_dec (fun _ => ?_) (fun _ => ?_)) | (with_reducible refine grd_dec (fun _ => ?_) (fun _ => ?_)) | (with_reducible refine egrd_dec (fun _ => ?_) (fun _ => ?_)))
  have hE0 : HExt K (K.new (.cells [.slice p ws.length c, .int .i64 (tn : Int)] 24 .ex)) := by (repeat (first | assumption | exact HExt.refl _ | (refine HExt.set ?_ (by first | omega | (simp only [new_nx, set_nx]; omega)) _) | (refine HExt.new ?_ _)))
  refine (look_wp (hw.good hE0) tn a (by omega) (by omega) (by omega) (by omega) (by omega)).mono fun v K' ⟨hv, hx⟩ => ?_
  rw [Int.toNat_natCast, if_pos (by unfold inA; exact decide_eq_true (by omega)), hpt.2.2.2.1, htg, hss] at hv
  subst hv
  have hE : HExt K K' := hE0.trans hx
  obtain ⟨g, hg⟩ : ∃ g, tgN ws a = g := ⟨_, rfl⟩
  obtain ⟨s, hs⟩ : ∃ s, szN ws a = s := ⟨_, rfl⟩
  rw [hg, hs] at hsz ⊢
  have he : ((s - 2 - g : Nat) : Int) = (s : Int) - 2 - (g : Int) := by omega
  rw [he]
  have hnx := hE.nx
  repeat' (first | (simp (disch := first | omega | (decide +kernel) | (repeat (first | assumption | exact HExt.refl _ | (refine HExt.set ?_ (by first | omega | (simp only [new_nx, set_nx]; omega)) _) | (refine HExt.new ?_ _)))) only [↓RD, RU, accW_t, accW_f, isW, ↓putF_get, ↓putF_none, ↓evF_t, ↓evF_c, ↓evF_f, new_nx, set_nx, new_get, set_get, getD_zero, getD_succ, u_not, pop, lop, aop, wop, resL, resV, tupleV, akV, isVal, isCell, Value.cells, List.map_cons, List.map_nil, Bool.not_true, Bool.not_false, Option.map_some, ↓reduceIte, Nat.reduceEqDiff, Nat.reduceAdd, Int.reduceOfNat, Int.reduceNegSucc, reduceCtorEq, List.getElem?_cons_zero, List.getElem?_cons_succ, List.length_cons, List.length_nil, srcR_c, src_n, src_v, src_s, bnd, lenV, capV, Option.isSome_none, Option.isNone_none, Option.isSome_some, Option.isNone_some, Bool.true_or, Bool.false_or, List.take_succ_cons, List.take_zero, List.drop_succ_cons, List.drop_zero, List.cons_append, List.nil_append, List.drop_nil, List.all_cons, List.all_nil, Bool.true_and, Kd.isRo, List.size_toArray, List.toList_toArray, bldV, Nat.reduceLeDiff, Int.reduceMul, Int.reduceAdd, Int.reduceSub, Int.reduceToNat, maxLen_eq, zeros_one, appS_some, appV_n, appV_v, appH_t, appH_f, Kd.isEx, Bool.false_and, partV, Nat.add_zero, Int.toNat_natCast]) | (with_reducible refine condK_dec (fun _ => ?_) (fun _ => ?_)) | (with_reducible refine grd_dec (fun _ => ?_) (fun _ => ?_)) | (with_reducible refine egrd_dec (fun _ => ?_) (fun _ => ?_)))
  all_goals (repeat (first | assumption | exact HExt.refl _ | (refine HExt.set ?_ (by first | omega | (simp only [new_nx, set_nx]; omega)) _) | (refine HExt.new ?_ _)))
/-- Both the copy and what was collected in it. -/
theorem coll_copy {H K1 : CH} {q : Option Addr} {l c' d : Nat} {kd : Kd} {ws roots : List Int} {top : Int} (hE1 : HExt H K1) (hl1 : H.nx ≤ l) (hl2 : l < K1.nx) (hob : K1.ob l = .cells (ws.map (.int .u64)) 50 kd) (hro : kd.isRo = false) (hc1 : ws.length ≤ c') (hc2 : c' ≤ 9223372036854775807) (hu : ∀ x ∈ ws, 0 ≤ x ∧ x < 18446744073709551616)
    (h1 : -9223372036854775808 ≤ top) (h2 : top ≤ 9223372036854775807) (hrs : SlAt 1 (CInt .u64) H q d roots) (hrl : roots.length ≤ 17592186043904) :
    WpF (tblG Try.prog LG GG) 11 [.pointer (some ⟨K1.nx, 0, none⟩), .slice q roots.length d] ((K1.new (.cells [.slice none 0 0, .int .i64 0] 24 .ex)).set K1.nx (.cells [.slice (some ⟨l, 0, none⟩) ws.length c', .int .i64 top] 24 .ex)) fun v K =>
      HExt H K ∧ K1.nx + 1 ≤ K.nx ∧ (∀ x, x < K1.nx → x ≠ l → K.ob x = K1.ob x) ∧ ((rtB ws top roots = false ∧ v = .tuple #[.slice none 0 0, .int .i64 3] ∧ K.ob l = .cells (ws.map (.int .u64)) 50 kd ∧ K.ob K1.nx = .cells [.slice (some ⟨l, 0, none⟩) ws.length c', .int .i64 top] 24 .ex) ∨
        (rtB ws top roots = true ∧ ∃ (tn : Nat) (ls : List Nat) (u : Value), top = (tn : Int) ∧ Form ws tn ls ∧ RtOk ls roots ∧ formF ws top = some (intsN ls) ∧ v = .tuple #[u, .int .i64 0] ∧ Grw K1 50 1 (ints .u64) K u (roots.map (turnF ws roots ls)) ∧ K.ob l = .cells ((colL ws roots ls).map (.int .u64)) 50 kd ∧
          K.ob K1.nx = .cells [.slice (some ⟨l, 0, none⟩) ws.length c', .int .i64 (Pk ws roots ls ls.length : Int)] 24 .ex)) := by
  have hn1 := hE1.nx
  obtain ⟨K2, hK2⟩ : ∃ K2, K2 = ((K1.new (.cells [.slice none 0 0, .int .i64 0] 24 .ex)).set K1.nx (.cells [.slice (some ⟨l, 0, none⟩) ws.length c', .int .i64 top] 24 .ex)) := ⟨_, rfl⟩
  have hn2 : K2.nx = K1.nx + 1 := by rw [hK2]; rfl
  have hold2 : ∀ x, x < K1.nx → K2.ob x = K1.ob x := fun x hx => by rw [hK2, set_get, if_neg (by omega), new_get, if_neg (by omega)]
  have hm2 : K2.ob K1.nx = .cells [.slice (some ⟨l, 0, none⟩) ws.length c', .int .i64 top] 24 .ex := by rw [hK2, set_get, if_pos rfl]
  have hE2 : HExt H K2 := ⟨by omega, fun x hx => (hold2 x (by omega)).trans (hE1.ob x hx)⟩
  have hob2 := (hold2 l (by omega)).trans hob
  rw [← hK2]
  refine (collect_wp (pm := K1.nx) top hm2 hob2 hro rfl hc1 hc2 (by omega) (by omega) (by omega) (fun x hx => wf_u64 (hu x hx)) h1 h2 (hrs.good (CInt.good _) hE2) (fun lo o e => ?_) hrl).mono fun v K3 ⟨hn3, ho3, hv⟩ => ?_
  · rcases hrs with ⟨_, _, h | h | h⟩ | ⟨l', o', _, _, _, h, hl, _⟩
    · rw [h] at e; cases e
    · rw [h] at e; cases e
    · rw [h] at e; cases e
    · rw [h] at e; cases e; omega
  refine ⟨⟨by omega, fun x hx => (ho3 x (by omega) (by omega) (by omega)).trans (hE2.ob x hx)⟩, by omega, fun x hx hne => (ho3 x (by omega) hne (by omega)).trans (hold2 x hx), ?_⟩
  rcases hv with ⟨hrt, rfl, g1, g2⟩ | ⟨hrt, ls, u, hf, rfl, hG, g1, g2⟩
  · exact .inl ⟨hrt, rfl, g1.trans hob2, g2.trans hm2⟩
  · obtain ⟨tn, rfl⟩ := form_top hf
    obtain ⟨ls', he, hF, _⟩ := form_range hu hf
    have : ls = ls' := by
      have h := congrArg (fun l => l.map Int.toNat) he
      simpa [intsN, Function.comp_def] using h
    subst this
    rw [colL_row] at g1
    exact .inr ⟨hrt, tn, ls, u, rfl, hF, rt_ok (sl_u64 hrs) hf hrt, hf, rfl, hG.low (by omega), g1, g2⟩
theorem intsN_inj {l l' : List Nat} (h : intsN l = intsN l') : l = l' := by
  have h := congrArg (fun l => l.map Int.toNat) h
  simpa [intsN, Function.comp_def] using h
theorem order_law {H : CH} {p q : Option Addr} {c d : Nat} {ws roots : List Int} (hw : Words H p c ws) (top : Int) (h1 : -9223372036854775808 ≤ top) (h2 : top ≤ 9223372036854775807) (h5 : ws.length * 8 ≤ 140737488355328) (hrs : SlAt 1 (CInt .u64) H q d roots) (hrl : roots.length ≤ 17592186043904) :
    WpF (tblG Try.prog LG GG) 8 [.agg #[.slice p ws.length c, .int .i64 top], .slice q roots.length d] H fun v K => v = .bool true := by
  have hu := sl_u64 hw.1
  have hur := sl_u64 hrs
  refine wpF_rG (by rfl) (by kernel_rfl) ?_; (conv in (rF _ _).body => reduce); (conv in (rF _ _).res => reduce)
  repeat' (first | (simp (disch := first | omega | (decide +kernel) | (repeat (first | assumption | exact HExt.refl _ | (refine HExt.set ?_ (by first | omega | (simp only [new_nx, set_nx]; omega)) _) | (refine HExt.new ?_ _)))) only [↓RD, RU, accW_t, accW_f, isW, ↓putF_get, ↓putF_none, ↓evF_t, ↓evF_c, ↓evF_f, new_nx, set_nx, new_get, set_get, getD_zero, getD_succ, u_not, pop, lop, aop, wop, resL, resV, tupleV, akV, isVal, isCell, Value.cells, List.map_cons, List.map_nil, Bool.not_true, Bool.not_false, Option.map_some, ↓reduceIte, Nat.reduceEqDiff, Nat.reduceAdd, Int.reduceOfNat, Int.reduceNegSucc, reduceCtorEq, List.getElem?_cons_zero, List.getElem?_cons_succ, List.length_cons, List.length_nil, srcR_c, src_n, src_v, src_s, bnd, lenV, capV, Option.isSome_none, Option.isNone_none, Option.isSome_some, Option.isNone_some, Bool.true_or, Bool.false_or, List.take_succ_cons, List.take_zero, List.drop_succ_cons, List.drop_zero, List.cons_append, List.nil_append, List.drop_nil, List.all_cons, List.all_nil, Bool.true_and, Kd.isRo, List.size_toArray, List.toList_toArray, bldV, Nat.reduceLeDiff, Int.reduceMul, Int.reduceAdd, Int.reduceSub, Int.reduceToNat, maxLen_eq, zeros_one, appS_some, appV_n, appV_v, appH_t, appH_f, Kd.isEx, Bool.false_and, partV, Nat.add_zero, Int.toNat_natCast, knownG_iff]) | (with_reducible refine condK_dec (fun _ => ?_) (fun _ => ?_)) | (with_reducible refine grd_dec (fun _ => ?_) (fun _ => ?_)) | (with_reducible refine egrd_dec (fun _ => ?_) (fun _ => ?_)))
  have hE0 : HExt H (H.new (.cells [.slice p ws.length c, .int .i64 top] 24 .ex)) := by (repeat (first | assumption | exact HExt.refl _ | (refine HExt.set ?_ (by first | omega | (simp only [new_nx, set_nx]; omega)) _) | (refine HExt.new ?_ _)))
  have hb0 : (H.new (.cells [.slice p ws.length c, .int .i64 top] 24 .ex)).ob H.nx = .cells [.slice p ws.length c, .int .i64 top] 24 .ex := by repeat' (first | (simp (disch := first | omega | (decide +kernel) | (repeat (first | assumption | exact HExt.refl _ | (refine HExt.set ?_ (by first | omega | (simp only [new_nx, set_nx]; omega)) _) | (refine HExt.new ?_ _)))) only [↓RD, RU, accW_t, accW_f, isW, ↓putF_get, ↓putF_none, ↓evF_t, ↓evF_c, ↓evF_f, new_nx, set_nx, new_get, set_get, getD_zero, getD_succ, u_not, pop, lop, aop, wop, resL, resV, tupleV, akV, isVal, isCell, Value.cells, List.map_cons, List.map_nil, Bool.not_true, Bool.not_false, Option.map_some, ↓reduceIte, Nat.reduceEqDiff, Nat.reduceAdd, Int.reduceOfNat, Int.reduceNegSucc, reduceCtorEq, List.getElem?_cons_zero, List.getElem?_cons_succ, List.length_cons, List.length_nil, srcR_c, src_n, src_v, src_s, bnd, lenV, capV, Option.isSome_none, Option.isNone_none, Option.isSome_some, Option.isNone_some, Bool.true_or, Bool.false_or, List.take_succ_cons, List.take_zero, List.drop_succ_cons, List.drop_zero, List.cons_append, List.nil_append, List.drop_nil, List.all_cons, List.all_nil, Bool.true_and, Kd.isRo, List.size_toArray, List.toList_toArray, bldV, Nat.reduceLeDiff, Int.reduceMul, Int.reduceAdd, Int.reduceSub, Int.reduceToNat, maxLen_eq, zeros_one, appS_some, appV_n, appV_v, appH_t, appH_f, Kd.isEx, Bool.false_and, partV, Nat.add_zero, Int.toNat_natCast]) | (with_reducible refine condK_dec (fun _ => ?_) (fun _ => ?_)) | (with_reducible refine grd_dec (fun _ => ?_) (fun _ => ?_)) | (with_reducible refine egrd_dec (fun _ => ?_) (fun _ => ?_)))
  refine (reach_wp (hw.good hE0) top h1 h2 (by omega) (hrs.good (CInt.good _) hE0)).mono fun v K1 ⟨hx1, hv⟩ => ?_
  have hE1 := hE0.trans hx1
  have hn1 : H.nx + 1 ≤ K1.nx := hx1.nx
  have hb1 : K1.ob H.nx = _ := (hx1.ob _ (by show H.nx < H.nx + 1; omega)).trans hb0
  rcases hv with ⟨hrt, rfl⟩ | ⟨hrt, ls, u, hf, rfl, hG⟩
  · repeat' (first | (simp (disch := first | omega | (decide +kernel) | (repeat (first | assumption | exact HExt.refl _ | (refine HExt.set ?_ (by first | omega | (simp only [new_nx, set_nx]; omega)) _) | (refine HExt.new ?_ _)))) only [↓RD, RU, accW_t, accW_f, isW, ↓putF_get, ↓putF_none, ↓evF_t, ↓evF_c, ↓evF_f, new_nx, set_nx, new_get, set_get, getD_zero, getD_succ, u_not, pop, lop, aop, wop, resL, resV, tupleV, akV, isVal, isCell, Value.cells, List.map_cons, List.map_nil, Bool.not_true, Bool.not_false, Option.map_some, ↓reduceIte, Nat.reduceEqDiff, Nat.reduceAdd, Int.reduceOfNat, Int.reduceNegSucc, reduceCtorEq, List.getElem?_cons_zero, List.getElem?_cons_succ, List.length_cons, List.length_nil, srcR_c, src_n, src_v, src_s, bnd, lenV, capV, Option.isSome_none, Option.isNone_none, Option.isSome_some, Option.isNone_some, Bool.true_or, Bool.false_or, List.take_succ_cons, List.take_zero, List.drop_succ_cons, List.drop_zero, List.cons_append, List.nil_append, List.drop_nil, List.all_cons, List.all_nil, Bool.true_and, Kd.isRo, List.size_toArray, List.toList_toArray, bldV, Nat.reduceLeDiff, Int.reduceMul, Int.reduceAdd, Int.reduceSub, Int.reduceToNat, maxLen_eq, zeros_one, appS_some, appV_n, appV_v, appH_t, appH_f, Kd.isEx, Bool.false_and, partV, Nat.add_zero, Int.toNat_natCast, hb1]) | (with_reducible refine condK_dec (fun _ => ?_) (fun _ => ?_)) | (with_reducible refine grd_dec (fun _ => ?_) (fun _ => ?_)) | (with_reducible refine egrd_dec (fun _ => ?_) (fun _ => ?_)))
    refine (rright_wp (hw.good hE1) top h1 h2 (by omega) (hrs.good (CInt.good _) hE1)).mono fun v K2 ⟨hv, hx2⟩ => ?_
    rw [hrt] at hv
    subst hv
    repeat' (first | (simp (disch := first | omega | (decide +kernel) | (repeat (first | assumption | exact HExt.refl _ | (refine HExt.set ?_ (by first | omega | (simp only [new_nx, set_nx]; omega)) _) | (refine HExt.new ?_ _)))) only [↓RD, RU, accW_t, accW_f, isW, ↓putF_get, ↓putF_none, ↓evF_t, ↓evF_c, ↓evF_f, new_nx, set_nx, new_get, set_get, getD_zero, getD_succ, u_not, pop, lop, aop, wop, resL, resV, tupleV, akV, isVal, isCell, Value.cells, List.map_cons, List.map_nil, Bool.not_true, Bool.not_false, Option.map_some, ↓reduceIte, Nat.reduceEqDiff, Nat.reduceAdd, Int.reduceOfNat, Int.reduceNegSucc, reduceCtorEq, List.getElem?_cons_zero, List.getElem?_cons_succ, List.length_cons, List.length_nil, srcR_c, src_n, src_v, src_s, bnd, lenV, capV, Option.isSome_none, Option.isNone_none, Option.isSome_some, Option.isNone_some, Bool.true_or, Bool.false_or, List.take_succ_cons, List.take_zero, List.drop_succ_cons, List.drop_zero, List.cons_append, List.nil_append, List.drop_nil, List.all_cons, List.all_nil, Bool.true_and, Kd.isRo, List.size_toArray, List.toList_toArray, bldV, Nat.reduceLeDiff, Int.reduceMul, Int.reduceAdd, Int.reduceSub, Int.reduceToNat, maxLen_eq, zeros_one, appS_some, appV_n, appV_v, appH_t, appH_f, Kd.isEx, Bool.false_and, partV, Nat.add_zero, Int.toNat_natCast]) | (with_reducible refine condK_dec (fun _ => ?_) (fun _ => ?_)) | (with_reducible refine grd_dec (fun _ => ?_) (fun _ => ?_)) | (with_reducible refine egrd_dec (fun _ => ?_) (fun _ => ?_)))
  · repeat' (first | (simp (disch := first | omega | (decide +kernel) | (repeat (first | assumption | exact HExt.refl _ | (refine HExt.set ?_ (by first | omega | (simp only [new_nx, set_nx]; omega)) _) | (refine HExt.new ?_ _)))) only [↓RD, RU, accW_t, accW_f, isW, ↓putF_get, ↓putF_none, ↓evF_t, ↓evF_c, ↓evF_f, new_nx, set_nx, new_get, set_get, getD_zero, getD_succ, u_not, pop, lop, aop, wop, resL, resV, tupleV, akV, isVal, isCell, Value.cells, List.map_cons, List.map_nil, Bool.not_true, Bool.not_false, Option.map_some, ↓reduceIte, Nat.reduceEqDiff, Nat.reduceAdd, Int.reduceOfNat, Int.reduceNegSucc, reduceCtorEq, List.getElem?_cons_zero, List.getElem?_cons_succ, List.length_cons, List.length_nil, srcR_c, src_n, src_v, src_s, bnd, lenV, capV, Option.isSome_none, Option.isNone_none, Option.isSome_some, Option.isNone_some, Bool.true_or, Bool.false_or, List.take_succ_cons, List.take_zero, List.drop_succ_cons, List.drop_zero, List.cons_append, List.nil_append, List.drop_nil, List.all_cons, List.all_nil, Bool.true_and, Kd.isRo, List.size_toArray, List.toList_toArray, bldV, Nat.reduceLeDiff, Int.reduceMul, Int.reduceAdd, Int.reduceSub, Int.reduceToNat, maxLen_eq, zeros_one, appS_some, appV_n, appV_v, appH_t, appH_f, Kd.isEx, Bool.false_and, partV, Nat.add_zero, Int.toNat_natCast, hb1]) | (with_reducible refine condK_dec (fun _ => ?_) (fun _ => ?_)) | (with_reducible refine grd_dec (fun _ => ?_) (fun _ => ?_)) | (with_reducible refine egrd_dec (fun _ => ?_) (fun _ => ?_)))
    refine (rcopy_wp (hw.good hE1) top h5).mono fun v K2 ⟨hx2, l, c', kd, hv, hl1, hl2, hob, hro, hc1, hc2⟩ => ?_
    subst hv
    have hE2 := hE1.trans hx2
    have hn2 := hx2.nx
    repeat' (first | (simp (disch := first | omega | (decide +kernel) | (repeat (first | assumption | exact HExt.refl _ | (refine HExt.set ?_ (by first | omega | (simp only [new_nx, set_nx]; omega)) _) | (refine HExt.new ?_ _)))) only [↓RD, RU, accW_t, accW_f, isW, ↓putF_get, ↓putF_none, ↓evF_t, ↓evF_c, ↓evF_f, new_nx, set_nx, new_get, set_get, getD_zero, getD_succ, u_not, pop, lop, aop, wop, resL, resV, tupleV, akV, isVal, isCell, Value.cells, List.map_cons, List.map_nil, Bool.not_true, Bool.not_false, Option.map_some, ↓reduceIte, Nat.reduceEqDiff, Nat.reduceAdd, Int.reduceOfNat, Int.reduceNegSucc, reduceCtorEq, List.getElem?_cons_zero, List.getElem?_cons_succ, List.length_cons, List.length_nil, srcR_c, src_n, src_v, src_s, bnd, lenV, capV, Option.isSome_none, Option.isNone_none, Option.isSome_some, Option.isNone_some, Bool.true_or, Bool.false_or, List.take_succ_cons, List.take_zero, List.drop_succ_cons, List.drop_zero, List.cons_append, List.nil_append, List.drop_nil, List.all_cons, List.all_nil, Bool.true_and, Kd.isRo, List.size_toArray, List.toList_toArray, bldV, Nat.reduceLeDiff, Int.reduceMul, Int.reduceAdd, Int.reduceSub, Int.reduceToNat, maxLen_eq, zeros_one, appS_some, appV_n, appV_v, appH_t, appH_f, Kd.isEx, Bool.false_and, partV, Nat.add_zero, Int.toNat_natCast]) | (with_reducible refine condK_dec (fun _ => ?_) (fun _ => ?_)) | (with_reducible refine grd_dec (fun _ => ?_) (fun _ => ?_)) | (with_reducible refine egrd_dec (fun _ => ?_) (fun _ => ?_)))
    refine (coll_copy hE2 (by omega) hl2 hob hro hc1 hc2 hu h1 h2 hrs hrl).mono fun v K3 ⟨hE3, hn3, ho3, hv⟩ => ?_
    rcases hv with ⟨hrt', _⟩ | ⟨_, tn, ls', u', rfl, hF, hro', hf', rfl, hG', hob3, hm3⟩
    · rw [hrt] at hrt'; cases hrt'
    obtain rfl := intsN_inj (Option.some.inj (hf.symm.trans hf'))
    have hb3 := (ho3 H.nx (by omega) (by omega)).trans ((hx2.ob _ (by omega)).trans hb1)
    have hNF := new_form (roots := roots) hF hu
    have hcl : (colL ws roots ls).length = ws.length := colL_len
    have hW3 := words_own (show l < K3.nx by omega) hob3 (c := c') (by omega) (by rw [maxLen_eq]; exact hc2) (colL_wf hF hu)
    have hff := form_mk (fun x hx => u64_wf (colL_wf hF hu x hx)) hNF
    repeat' (first | (simp (disch := first | omega | (decide +kernel) | (repeat (first | assumption | exact HExt.refl _ | (refine HExt.set ?_ (by first | omega | (simp only [new_nx, set_nx]; omega)) _) | (refine HExt.new ?_ _)))) only [↓RD, RU, accW_t, accW_f, isW, ↓putF_get, ↓putF_none, ↓evF_t, ↓evF_c, ↓evF_f, new_nx, set_nx, new_get, set_get, getD_zero, getD_succ, u_not, pop, lop, aop, wop, resL, resV, tupleV, akV, isVal, isCell, Value.cells, List.map_cons, List.map_nil, Bool.not_true, Bool.not_false, Option.map_some, ↓reduceIte, Nat.reduceEqDiff, Nat.reduceAdd, Int.reduceOfNat, Int.reduceNegSucc, reduceCtorEq, List.getElem?_cons_zero, List.getElem?_cons_succ, List.length_cons, List.length_nil, srcR_c, src_n, src_v, src_s, bnd, lenV, capV, Option.isSome_none, Option.isNone_none, Option.isSome_some, Option.isNone_some, Bool.true_or, Bool.false_or, List.take_succ_cons, List.take_zero, List.drop_succ_cons, List.drop_zero, List.cons_append, List.nil_append, List.drop_nil, List.all_cons, List.all_nil, Bool.true_and, Kd.isRo, List.size_toArray, List.toList_toArray, bldV, Nat.reduceLeDiff, Int.reduceMul, Int.reduceAdd, Int.reduceSub, Int.reduceToNat, maxLen_eq, zeros_one, appS_some, appV_n, appV_v, appH_t, appH_f, Kd.isEx, Bool.false_and, partV, Nat.add_zero, Int.toNat_natCast, hm3]) | (with_reducible refine condK_dec (fun _ => ?_) (fun _ => ?_)) | (with_reducible refine grd_dec (fun _ => ?_) (fun _ => ?_)) | (with_reducible refine egrd_dec (fun _ => ?_) (fun _ => ?_)))
    have hobj := objects_wp hW3 (Pk ws roots ls ls.length) (by omega) (by have := Pk_lt (roots := roots) hF (Nat.le_refl ls.length); omega) (by omega)
    rw [hcl, hff] at hobj
    refine hobj.mono fun v K4 ⟨hx4, qo, co, hv, hso, _⟩ => ?_
    simp only [Option.getD_some] at hv hso
    subst hv
    have hx34 := hx4
    have hn4 := hx4.nx
    have hE4 := hE3.trans hx4
    obtain ⟨R, hR⟩ : ∃ R, rcL ws roots ls = R := ⟨_, rfl⟩
    have hNL : newL ws roots ls = R.map (nto ws roots ls) := by unfold newL; rw [hR]
    have hRb := rcL_bound (roots := roots) hF
    have hRw := rcL_wf (roots := roots) hF
    rw [hR] at hG hRb hRw
    have hRn : (intsN R).length = R.length := by simp [intsN]
    have hNn : (intsN (newL ws roots ls)).length = R.length := by rw [hNL]; simp [intsN]
    rw [hNn]
    have hGK : Grw H 3 1 (ints .i64) K4 u (intsN R) := by
      rcases hG with g | ⟨bb, kk, e, g1, g2, g3, g4⟩
      · exact .inl g
      · have g1' : H.nx + 1 ≤ bb := g1
        exact .inr ⟨bb, kk, e, by omega, by omega, by rw [hx4.ob bb (by omega), ho3 bb (by omega) (by omega), hx2.ob bb g2]; exact g3, g4⟩
    obtain ⟨qu, cu, rfl, su⟩ := hGK.sl (by omega) hRw
    rw [hRn]
    have hm4 := (hx4.ob K2.nx (by omega)).trans hm3
    have hb4 := (hx4.ob H.nx (by omega)).trans hb3
    have hob4 := (hx4.ob l (by omega)).trans hob3
    have hlen := hF.len
    have htop := hF.top
    repeat' (first | (simp (disch := first | omega | (decide +kernel) | (repeat (first | assumption | exact HExt.refl _ | (refine HExt.set ?_ (by first | omega | (simp only [new_nx, set_nx]; omega)) _) | (refine HExt.new ?_ _)))) only [↓RD, RU, accW_t, accW_f, isW, ↓putF_get, ↓putF_none, ↓evF_t, ↓evF_c, ↓evF_f, new_nx, set_nx, new_get, set_get, getD_zero, getD_succ, u_not, pop, lop, aop, wop, resL, resV, tupleV, akV, isVal, isCell, Value.cells, List.map_cons, List.map_nil, Bool.not_true, Bool.not_false, Option.map_some, ↓reduceIte, Nat.reduceEqDiff, Nat.reduceAdd, Int.reduceOfNat, Int.reduceNegSucc, reduceCtorEq, List.getElem?_cons_zero, List.getElem?_cons_succ, List.length_cons, List.length_nil, srcR_c, src_n, src_v, src_s, bnd, lenV, capV, Option.isSome_none, Option.isNone_none, Option.isSome_some, Option.isNone_some, Bool.true_or, Bool.false_or, List.take_succ_cons, List.take_zero, List.drop_succ_cons, List.drop_zero, List.cons_append, List.nil_append, List.drop_nil, List.all_cons, List.all_nil, Bool.true_and, Kd.isRo, List.size_toArray, List.toList_toArray, bldV, Nat.reduceLeDiff, Int.reduceMul, Int.reduceAdd, Int.reduceSub, Int.reduceToNat, maxLen_eq, zeros_one, appS_some, appV_n, appV_v, appH_t, appH_f, Kd.isEx, Bool.false_and, partV, Nat.add_zero, Int.toNat_natCast, hb4, hm4]) | (with_reducible refine condK_dec (fun _ => ?_) (fun _ => ?_)) | (with_reducible refine grd_dec (fun _ => ?_) (fun _ => ?_)) | (with_reducible refine egrd_dec (fun _ => ?_) (fun _ => ?_)))
    refine loop_w (fun m fr K => ∃ i : Nat, m = R.length - i ∧ i ≤ R.length ∧ fr 9 = .int .i64 (i : Int) ∧ HExt K4 K) (n := R.length) ⟨0, rfl, Nat.zero_le _, by (repeat' (first | (simp (disch := first | omega | (decide +kernel) | (repeat (first | assumption | exact HExt.refl _ | (refine HExt.set ?_ (by first | omega | (simp only [new_nx, set_nx]; omega)) _) | (refine HExt.new ?_ _)))) only [↓RD, RU, accW_t, accW_f, isW, ↓putF_get, ↓putF_none, ↓evF_t, ↓evF_c, ↓evF_f, new_nx, set_nx, new_get, set_get, getD_zero, getD_succ, u_not, pop, lop, aop, wop, resL, resV, tupleV, akV, isVal, isCell, Value.cells, List.map_cons, List.map_nil, Bool.not_true, Bool.not_false, Option.map_some, ↓reduceIte, Nat.reduceEqDiff, Nat.reduceAdd, Int.reduceOfNat, Int.reduceNegSucc, reduceCtorEq, List.getElem?_cons_zero, List.getElem?_cons_succ, List.length_cons, List.length_nil, srcR_c, src_n, src_v, src_s, bnd, lenV, capV, Option.isSome_none, Option.isNone_none, Option.isSome_some, Option.isNone_some, Bool.true_or, Bool.false_or, List.take_succ_cons, List.take_zero, List.drop_succ_cons, List.drop_zero, List.cons_append, List.nil_append, List.drop_nil, List.all_cons, List.all_nil, Bool.true_and, Kd.isRo, List.size_toArray, List.toList_toArray, bldV, Nat.reduceLeDiff, Int.reduceMul, Int.reduceAdd, Int.reduceSub, Int.reduceToNat, maxLen_eq, zeros_one, appS_some, appV_n, appV_v, appH_t, appH_f, Kd.isEx, Bool.false_and, partV, Nat.add_zero, Int.toNat_natCast]) | (with_reducible refine condK_dec (fun _ => ?_) (fun _ => ?_)) | (with_reducible refine grd_dec (fun _ => ?_) (fun _ => ?_)) | (with_reducible refine egrd_dec (fun _ => ?_) (fun _ => ?_)))); all_goals rfl, HExt.refl _⟩ ?_
    rintro m fr K ⟨i, rfl, hi, f9, hxK⟩ hag
    have hnK := hxK.nx
    by_cases hil : i < R.length
    case neg =>
      repeat' (first | (simp (disch := first | omega | (decide +kernel) | (repeat (first | assumption | exact HExt.refl _ | (refine HExt.set ?_ (by first | omega | (simp only [new_nx, set_nx]; omega)) _) | (refine HExt.new ?_ _)))) only [↓RD, RU, accW_t, accW_f, isW, ↓putF_get, ↓putF_none, ↓evF_t, ↓evF_c, ↓evF_f, new_nx, set_nx, new_get, set_get, getD_zero, getD_succ, u_not, pop, lop, aop, wop, resL, resV, tupleV, akV, isVal, isCell, Value.cells, List.map_cons, List.map_nil, Bool.not_true, Bool.not_false, Option.map_some, ↓reduceIte, Nat.reduceEqDiff, Nat.reduceAdd, Int.reduceOfNat, Int.reduceNegSucc, reduceCtorEq, List.getElem?_cons_zero, List.getElem?_cons_succ, List.length_cons, List.length_nil, srcR_c, src_n, src_v, src_s, bnd, lenV, capV, Option.isSome_none, Option.isNone_none, Option.isSome_some, Option.isNone_some, Bool.true_or, Bool.false_or, List.take_succ_cons, List.take_zero, List.drop_succ_cons, List.drop_zero, List.cons_append, List.nil_append, List.drop_nil, List.all_cons, List.all_nil, Bool.true_and, Kd.isRo, List.size_toArray, List.toList_toArray, bldV, Nat.reduceLeDiff, Int.reduceMul, Int.reduceAdd, Int.reduceSub, Int.reduceToNat, maxLen_eq, zeros_one, appS_some, appV_n, appV_v, appH_t, appH_f, Kd.isEx, Bool.false_and, partV, Nat.add_zero, Int.toNat_natCast, f9, hag]) | (with_reducible refine condK_dec (fun _ => ?_) (fun _ => ?_)) | (with_reducible refine grd_dec (fun _ => ?_) (fun _ => ?_)) | (with_reducible refine egrd_dec (fun _ => ?_) (fun _ => ?_)))
      all_goals rfl
    have hbK := (hxK.ob H.nx (by omega)).trans hb4
    have hmK := (hxK.ob K2.nx (by omega)).trans hm4
    have hobK := (hxK.ob l (by omega)).trans hob4
    have hEK := hE4.trans hxK
    obtain ⟨a, ha⟩ : ∃ a, R[i]? = some a := ⟨_, List.getElem?_eq_getElem hil⟩
    have hma := mem_rc.1 (show a ∈ rcL ws roots ls by rw [hR]; exact List.mem_of_getElem? ha)
    have hnl : nto ws roots ls a ∈ newL ws roots ls := mem_new.2 ⟨a, hma.1, hma.2, rfl⟩
    obtain ⟨lu, ou, osu, eu, kdu, rfl, hlu, hcu, hmu, hobu, holu, hosu, hwfu⟩ := (su.good (CInt.good _) hxK).ints (by omega)
    obtain ⟨ln, on, osn, en, kdn, rfl, hln, hcn, hmn, hobn, holn, hosn, hwfn⟩ := (hso.good (CInt.good _) hxK).ints (by omega)
    have hgu := hosu i (by omega)
    rw [intsN_at ha] at hgu
    have hgn := hosn i (by omega)
    rw [hNL, intsN_at (a := nto ws roots ls a) (by rw [List.getElem?_map, ha]; rfl)] at hgn
    have hle := nto_le (roots := roots) hF hma.1
    have hba := obj_lt2 hF hma.1
    have hsz := isObj_sz (hF.ob a hma.1)
    repeat' (first | (simp (disch := first | omega | (decide +kernel) | (repeat (first | assumption | exact HExt.refl _ | (refine HExt.set ?_ (by first | omega | (simp only [new_nx, set_nx]; omega)) _) | (refine HExt.new ?_ _)))) only [↓RD, RU, accW_t, accW_f, isW, ↓putF_get, ↓putF_none, ↓evF_t, ↓evF_c, ↓evF_f, new_nx, set_nx, new_get, set_get, getD_zero, getD_succ, u_not, pop, lop, aop, wop, resL, resV, tupleV, akV, isVal, isCell, Value.cells, List.map_cons, List.map_nil, Bool.not_true, Bool.not_false, Option.map_some, ↓reduceIte, Nat.reduceEqDiff, Nat.reduceAdd, Int.reduceOfNat, Int.reduceNegSucc, reduceCtorEq, List.getElem?_cons_zero, List.getElem?_cons_succ, List.length_cons, List.length_nil, srcR_c, src_n, src_v, src_s, bnd, lenV, capV, Option.isSome_none, Option.isNone_none, Option.isSome_some, Option.isNone_some, Bool.true_or, Bool.false_or, List.take_succ_cons, List.take_zero, List.drop_succ_cons, List.drop_zero, List.cons_append, List.nil_append, List.drop_nil, List.all_cons, List.all_nil, Bool.true_and, Kd.isRo, List.size_toArray, List.toList_toArray, bldV, Nat.reduceLeDiff, Int.reduceMul, Int.reduceAdd, Int.reduceSub, Int.reduceToNat, maxLen_eq, zeros_one, appS_some, appV_n, appV_v, appH_t, appH_f, Kd.isEx, Bool.false_and, partV, Nat.add_zero, Int.toNat_natCast, f9, hag, hobu, hgu, hobn, hgn, hmK]) | (with_reducible refine condK_dec (fun _ => ?_) (fun _ => ?_)) | (with_reducible refine grd_dec (fun _ => ?_) (fun _ => ?_)) | (with_reducible refine egrd_dec (fun _ => ?_) (fun _ => ?_)))
    have hWK := words_own (show l < K.nx by omega) hobK (c := c') (by omega) (by rw [maxLen_eq]; exact hc2) (colL_wf hF hu)
    have has := asize_wp hWK hNF hnl
    rw [hcl, (new_sz hF hma.1 hma.2).1, (new_sz hF hma.1 hma.2).2] at has
    refine has.mono fun v K5 ⟨hv, hx5⟩ => ?_
    subst hv
    have hn5 := hx5.nx
    have hb5 := (hx5.ob H.nx (by omega)).trans hbK
    have hm5 := (hx5.ob K2.nx (by omega)).trans hmK
    have hob5 := (hx5.ob l (by omega)).trans hobK
    have hE5 := hEK.trans hx5
    obtain ⟨lw, ow, osw, ew, kdw, rfl, hlw, hcw, hmw, hobw, holw, hosw, hwfw⟩ := hw.1.ints (by omega)
    have hobw5 := (hE5.ob lw hlw).trans hobw
    have hga : osw[ow + a]? = some (.int .u64 (wd ws a)) := hosw a (by omega)
    have hnw := new_in (roots := roots) hF hma.1 hma.2 (j := 0) (by omega)
    have hgb : ((colL ws roots ls).map (Value.int .u64))[nto ws roots ls a]? = some (.int .u64 (wd ws a)) := by
      rw [get_map (d := 0) (by omega)]
      have := new_head (roots := roots) hF hma.1 hma.2
      unfold wd at this
      rw [this]; rfl
    obtain ⟨g, hg⟩ : ∃ g, tgN ws a = g := ⟨_, rfl⟩
    obtain ⟨s, hs⟩ : ∃ s, szN ws a = s := ⟨_, rfl⟩
    obtain ⟨b, hb⟩ : ∃ b, nto ws roots ls a = b := ⟨_, rfl⟩
    have hfldv : ∀ k, k < s - 2 → ((colL ws roots ls).map (Value.int .u64))[b + 2 + k]? = some (.int .u64 (objW ws roots ls a (2 + k))) ∧ b + 2 + k < ws.length := fun k hk => by
      have := new_in (roots := roots) hF hma.1 hma.2 (j := 2 + k) (by omega)
      rw [hb, ← Nat.add_assoc] at this
      refine ⟨?_, this.1⟩
      rw [get_map (d := 0) (by omega)]
      have h := this.2
      unfold wd at h
      rw [h]
    rw [hb] at hle hgb
    rw [hg, hs] at hsz ⊢
    rw [hb]
    repeat' (first | (simp (disch := first | omega | (decide +kernel) | (repeat (first | assumption | exact HExt.refl _ | (refine HExt.set ?_ (by first | omega | (simp only [new_nx, set_nx]; omega)) _) | (refine HExt.new ?_ _)))) only [↓RD, RU, accW_t, accW_f, isW, ↓putF_get, ↓putF_none, ↓evF_t, ↓evF_c, ↓evF_f, new_nx, set_nx, new_get, set_get, getD_zero, getD_succ, u_not, pop, lop, aop, wop, resL, resV, tupleV, akV, isVal, isCell, Value.cells, List.map_cons, List.map_nil, Bool.not_true, Bool.not_false, Option.map_some, ↓reduceIte, Nat.reduceEqDiff, Nat.reduceAdd, Int.reduceOfNat, Int.reduceNegSucc, reduceCtorEq, List.getElem?_cons_zero, List.getElem?_cons_succ, List.length_cons, List.length_nil, srcR_c, src_n, src_v, src_s, bnd, lenV, capV, Option.isSome_none, Option.isNone_none, Option.isSome_some, Option.isNone_some, Bool.true_or, Bool.false_or, List.take_succ_cons, List.take_zero, List.drop_succ_cons, List.drop_zero, List.cons_append, List.nil_append, List.drop_nil, List.all_cons, List.all_nil, Bool.true_and, Kd.isRo, List.size_toArray, List.toList_toArray, bldV, Nat.reduceLeDiff, Int.reduceMul, Int.reduceAdd, Int.reduceSub, Int.reduceToNat, maxLen_eq, zeros_one, appS_some, appV_n, appV_v, appH_t, appH_f, Kd.isEx, Bool.false_and, partV, Nat.add_zero, Int.toNat_natCast, f9, hag, hb5, hm5, hob5, hobw5, hga, hgb]) | (with_reducible refine condK_dec (fun _ => ?_) (fun _ => ?_)) | (with_reducible refine grd_dec (fun _ => ?_) (fun _ => ?_)) | (with_reducible refine egrd_dec (fun _ => ?_) (fun _ => ?_)))
    refine loop_w (fun m fr K6 => ∃ k : Nat, m = s - 2 - k ∧ k ≤ s - 2 ∧ fr 15 = .int .i64 (k : Int) ∧ K6 = K5) (n := s - 2) ⟨0, rfl, Nat.zero_le _, by (repeat' (first | (simp (disch := first | omega | (decide +kernel) | (repeat (first | assumption | exact HExt.refl _ | (refine HExt.set ?_ (by first | omega | (simp only [new_nx, set_nx]; omega)) _) | (refine HExt.new ?_ _)))) only [↓RD, RU, accW_t, accW_f, isW, ↓putF_get, ↓putF_none, ↓evF_t, ↓evF_c, ↓evF_f, new_nx, set_nx, new_get, set_get, getD_zero, getD_succ, u_not, pop, lop, aop, wop, resL, resV, tupleV, akV, isVal, isCell, Value.cells, List.map_cons, List.map_nil, Bool.not_true, Bool.not_false, Option.map_some, ↓reduceIte, Nat.reduceEqDiff, Nat.reduceAdd, Int.reduceOfNat, Int.reduceNegSucc, reduceCtorEq, List.getElem?_cons_zero, List.getElem?_cons_succ, List.length_cons, List.length_nil, srcR_c, src_n, src_v, src_s, bnd, lenV, capV, Option.isSome_none, Option.isNone_none, Option.isSome_some, Option.isNone_some, Bool.true_or, Bool.false_or, List.take_succ_cons, List.take_zero, List.drop_succ_cons, List.drop_zero, List.cons_append, List.nil_append, List.drop_nil, List.all_cons, List.all_nil, Bool.true_and, Kd.isRo, List.size_toArray, List.toList_toArray, bldV, Nat.reduceLeDiff, Int.reduceMul, Int.reduceAdd, Int.reduceSub, Int.reduceToNat, maxLen_eq, zeros_one, appS_some, appV_n, appV_v, appH_t, appH_f, Kd.isEx, Bool.false_and, partV, Nat.add_zero, Int.toNat_natCast]) | (with_reducible refine condK_dec (fun _ => ?_) (fun _ => ?_)) | (with_reducible refine grd_dec (fun _ => ?_) (fun _ => ?_)) | (with_reducible refine egrd_dec (fun _ => ?_) (fun _ => ?_)))); all_goals rfl, rfl⟩ ?_
    rintro m fr2 K6 ⟨k, rfl, hk, f15, rfl⟩ hag2
    have hsum : (g : Int) + ((s - 2 - g : Nat) : Int) = ((s - 2 : Nat) : Int) := by omega
    by_cases hks : k < s - 2
    case neg =>
      repeat' (first | (simp (disch := first | omega | (decide +kernel) | (repeat (first | assumption | exact HExt.refl _ | (refine HExt.set ?_ (by first | omega | (simp only [new_nx, set_nx]; omega)) _) | (refine HExt.new ?_ _)))) only [↓RD, RU, accW_t, accW_f, isW, ↓putF_get, ↓putF_none, ↓evF_t, ↓evF_c, ↓evF_f, new_nx, set_nx, new_get, set_get, getD_zero, getD_succ, u_not, pop, lop, aop, wop, resL, resV, tupleV, akV, isVal, isCell, Value.cells, List.map_cons, List.map_nil, Bool.not_true, Bool.not_false, Option.map_some, ↓reduceIte, Nat.reduceEqDiff, Nat.reduceAdd, Int.reduceOfNat, Int.reduceNegSucc, reduceCtorEq, List.getElem?_cons_zero, List.getElem?_cons_succ, List.length_cons, List.length_nil, srcR_c, src_n, src_v, src_s, bnd, lenV, capV, Option.isSome_none, Option.isNone_none, Option.isSome_some, Option.isNone_some, Bool.true_or, Bool.false_or, List.take_succ_cons, List.take_zero, List.drop_succ_cons, List.drop_zero, List.cons_append, List.nil_append, List.drop_nil, List.all_cons, List.all_nil, Bool.true_and, Kd.isRo, List.size_toArray, List.toList_toArray, bldV, Nat.reduceLeDiff, Int.reduceMul, Int.reduceAdd, Int.reduceSub, Int.reduceToNat, maxLen_eq, zeros_one, appS_some, appV_n, appV_v, appH_t, appH_f, Kd.isEx, Bool.false_and, partV, Nat.add_zero, Int.toNat_natCast, f15, hag2, hag, hsum, f9]) | (with_reducible refine condK_dec (fun _ => ?_) (fun _ => ?_)) | (with_reducible refine grd_dec (fun _ => ?_) (fun _ => ?_)) | (with_reducible refine egrd_dec (fun _ => ?_) (fun _ => ?_)))
      exact ⟨_, by omega, i + 1, rfl, by omega, rfl, hxK.trans hx5⟩
    have hgk : osw[ow + (a + 2 + k)]? = some (.int .u64 (wd ws (a + 2 + k))) := hosw (a + 2 + k) (by omega)
    obtain ⟨hgk2, hkb⟩ := hfldv k hks
    have hwk := wd_nonneg hu (a + 2 + k)
    by_cases hkg : k < g
    · have hov : objW ws roots ls a (2 + k) = turnF ws roots ls (wd ws (a + 2 + k)) := by
        unfold objW
        rw [if_pos (by omega), Nat.add_assoc]
      rw [hov] at hgk2
      have hfr := fld_rc hF hma.1 hma.2 (i := k) (by omega)
      have htk := turn_kind (roots := roots) hF hfr.1 hfr.2
      have htu := turnF_u64 (roots := roots) hF hwk.1 hwk.2 hfr.2
      by_cases k0 : kindF (wd ws (a + 2 + k)) = 0
      · have htk0 := htk.1.trans k0
        repeat' (first | (simp (disch := first | omega | (decide +kernel) | (repeat (first | assumption | exact HExt.refl _ | (refine HExt.set ?_ (by first | omega | (simp only [new_nx, set_nx]; omega)) _) | (refine HExt.new ?_ _)))) only [↓RD, RU, accW_t, accW_f, isW, ↓putF_get, ↓putF_none, ↓evF_t, ↓evF_c, ↓evF_f, new_nx, set_nx, new_get, set_get, getD_zero, getD_succ, u_not, pop, lop, aop, wop, resL, resV, tupleV, akV, isVal, isCell, Value.cells, List.map_cons, List.map_nil, Bool.not_true, Bool.not_false, Option.map_some, ↓reduceIte, Nat.reduceEqDiff, Nat.reduceAdd, Int.reduceOfNat, Int.reduceNegSucc, reduceCtorEq, List.getElem?_cons_zero, List.getElem?_cons_succ, List.length_cons, List.length_nil, srcR_c, src_n, src_v, src_s, bnd, lenV, capV, Option.isSome_none, Option.isNone_none, Option.isSome_some, Option.isNone_some, Bool.true_or, Bool.false_or, List.take_succ_cons, List.take_zero, List.drop_succ_cons, List.drop_zero, List.cons_append, List.nil_append, List.drop_nil, List.all_cons, List.all_nil, Bool.true_and, Kd.isRo, List.size_toArray, List.toList_toArray, bldV, Nat.reduceLeDiff, Int.reduceMul, Int.reduceAdd, Int.reduceSub, Int.reduceToNat, maxLen_eq, zeros_one, appS_some, appV_n, appV_v, appH_t, appH_f, Kd.isEx, Bool.false_and, partV, Nat.add_zero, Int.toNat_natCast, f15, hag2, hag, hsum, hb5, hm5, hob5, hobw5, toNat_add2n, hgk, hgk2, rkind_iff, k0, htk0]) | (with_reducible refine condK_dec (fun _ => ?_) (fun _ => ?_)) | (with_reducible refine grd_dec (fun _ => ?_) (fun _ => ?_)) | (with_reducible refine egrd_dec (fun _ => ?_) (fun _ => ?_)))
        exact ⟨_, by omega, k + 1, rfl, by omega, rfl⟩
      · have hte : turnF ws roots ls (wd ws (a + 2 + k)) = wd ws (a + 2 + k) := by unfold turnF; rw [if_neg k0]
        rw [hte] at hgk2
        repeat' (first | (simp (disch := first | omega | (decide +kernel) | (repeat (first | assumption | exact HExt.refl _ | (refine HExt.set ?_ (by first | omega | (simp only [new_nx, set_nx]; omega)) _) | (refine HExt.new ?_ _)))) only [↓RD, RU, accW_t, accW_f, isW, ↓putF_get, ↓putF_none, ↓evF_t, ↓evF_c, ↓evF_f, new_nx, set_nx, new_get, set_get, getD_zero, getD_succ, u_not, pop, lop, aop, wop, resL, resV, tupleV, akV, isVal, isCell, Value.cells, List.map_cons, List.map_nil, Bool.not_true, Bool.not_false, Option.map_some, ↓reduceIte, Nat.reduceEqDiff, Nat.reduceAdd, Int.reduceOfNat, Int.reduceNegSucc, reduceCtorEq, List.getElem?_cons_zero, List.getElem?_cons_succ, List.length_cons, List.length_nil, srcR_c, src_n, src_v, src_s, bnd, lenV, capV, Option.isSome_none, Option.isNone_none, Option.isSome_some, Option.isNone_some, Bool.true_or, Bool.false_or, List.take_succ_cons, List.take_zero, List.drop_succ_cons, List.drop_zero, List.cons_append, List.nil_append, List.drop_nil, List.all_cons, List.all_nil, Bool.true_and, Kd.isRo, List.size_toArray, List.toList_toArray, bldV, Nat.reduceLeDiff, Int.reduceMul, Int.reduceAdd, Int.reduceSub, Int.reduceToNat, maxLen_eq, zeros_one, appS_some, appV_n, appV_v, appH_t, appH_f, Kd.isEx, Bool.false_and, partV, Nat.add_zero, Int.toNat_natCast, f15, hag2, hag, hsum, hb5, hm5, hob5, hobw5, toNat_add2n, hgk, hgk2, rkind_iff]) | (with_reducible refine condK_dec (fun _ => ?_) (fun _ => ?_)) | (with_reducible refine grd_dec (fun _ => ?_) (fun _ => ?_)) | (with_reducible refine egrd_dec (fun _ => ?_) (fun _ => ?_)))
        exact ⟨_, by omega, k + 1, rfl, by omega, rfl⟩
    · have hov : objW ws roots ls a (2 + k) = wd ws (a + 2 + k) := by
        unfold objW
        rw [if_neg (by omega), Nat.add_assoc]
      rw [hov] at hgk2
      repeat' (first | (simp (disch := first | omega | (decide +kernel) | (repeat (first | assumption | exact HExt.refl _ | (refine HExt.set ?_ (by first | omega | (simp only [new_nx, set_nx]; omega)) _) | (refine HExt.new ?_ _)))) only [↓RD, RU, accW_t, accW_f, isW, ↓putF_get, ↓putF_none, ↓evF_t, ↓evF_c, ↓evF_f, new_nx, set_nx, new_get, set_get, getD_zero, getD_succ, u_not, pop, lop, aop, wop, resL, resV, tupleV, akV, isVal, isCell, Value.cells, List.map_cons, List.map_nil, Bool.not_true, Bool.not_false, Option.map_some, ↓reduceIte, Nat.reduceEqDiff, Nat.reduceAdd, Int.reduceOfNat, Int.reduceNegSucc, reduceCtorEq, List.getElem?_cons_zero, List.getElem?_cons_succ, List.length_cons, List.length_nil, srcR_c, src_n, src_v, src_s, bnd, lenV, capV, Option.isSome_none, Option.isNone_none, Option.isSome_some, Option.isNone_some, Bool.true_or, Bool.false_or, List.take_succ_cons, List.take_zero, List.drop_succ_cons, List.drop_zero, List.cons_append, List.nil_append, List.drop_nil, List.all_cons, List.all_nil, Bool.true_and, Kd.isRo, List.size_toArray, List.toList_toArray, bldV, Nat.reduceLeDiff, Int.reduceMul, Int.reduceAdd, Int.reduceSub, Int.reduceToNat, maxLen_eq, zeros_one, appS_some, appV_n, appV_v, appH_t, appH_f, Kd.isEx, Bool.false_and, partV, Nat.add_zero, Int.toNat_natCast, f15, hag2, hag, hsum, hb5, hm5, hob5, hobw5, toNat_add2n, hgk, hgk2]) | (with_reducible refine condK_dec (fun _ => ?_) (fun _ => ?_)) | (with_reducible refine grd_dec (fun _ => ?_) (fun _ => ?_)) | (with_reducible refine egrd_dec (fun _ => ?_) (fun _ => ?_)))
      exact ⟨_, by omega, k + 1, rfl, by omega, rfl⟩
end Can
end Go.Proofs.Ytjgigomeneddpaa
