/- Parse, its laws: ParseKeeps walked. Parse, its laws: tokens as an argument. -/
import Derived.Test.YtnkfdkfmdeibfaaZo
import Derived.Test.YtnkfdkfmdeibfaaZc
import Derived.Test.YtnkfdkfmdeibfaaZi
import Derived.Test.YtnkfdkfmdeibfaaRows
section
namespace Go.Proofs.Ytnkfdkfmdeibfaa
namespace Can
open Go Go.RowKit
set_option linter.unusedSimpArgs false
set_option linter.unusedVariables false
set_option maxRecDepth 4000
theorem parse_kd (ts : List PT) : kdN ts.length (parseT ts).1 := by
  have hz : kdN ts.length zNd := ⟨Nat.zero_le _, trivial⟩
  have h1 := gr_gd (ts := ts) (ts.length * 64 + 100) (.top []) 0 trivial (Nat.zero_le _) (by simp only [NT.rank]; omega)
  have h2 := gr_kd (ts := ts) (ts.length * 64 + 100) (.top []) 0 ⟨trivial, by simp⟩
  unfold parseT
  match h : gr ts (ts.length * 64 + 100) (.top []) 0, h1, h2 with
  | some (.error e), _, _ => exact hz
  | some (.ok (l, j)), h1, h2 =>
    show kdN ts.length (if 60 < htL l + 1 then (zNd, (0 : Int), (11 : Int)) else (nd 1 (hdLine (nowT ts 0).line l) l, 0, 0)).1
    have hj : j ≤ ts.length := h1.2.1
    split
    · exact hz
    · exact ⟨by have := h2.2.2; omega, kdL_up h2.2.1 hj⟩
def nbox (K : CH) (c : NC) : CH := (K.new (.cells [.int .i64 0, .int .i64 0, .string ⟨⟨[]⟩⟩, .int .i64 0, .slice none 0 0] 28 .ex)).set K.nx (.cells [.int .i64 c.k, .int .i64 c.l, .string c.x, .int .i64 c.o, .slice c.a c.n c.c] 28 .ex)
theorem nbox_p (K : CH) (c : NC) : ∃ K', nbox K c = K' ∧ HExt K K' ∧ K'.nx = K.nx + 1 ∧ K'.ob K.nx = .cells [.int .i64 c.k, .int .i64 c.l, .string c.x, .int .i64 c.o, .slice c.a c.n c.c] 28 .ex :=
  ⟨_, rfl, ((HExt.refl K).new _).set (Nat.le_refl _) _, rfl, set_get.trans (if_pos rfl)⟩
theorem nc_row {K : CH} {A : Nat → Prop} {t : Nd} {c : NC} (h : SVRs K A (ndS t) (ncV c)) : c.n = t.kids.length ∧ ((c.a = none ∧ c.n = 0 ∧ c.c = 0) ∨ ∃ b cs e kd, c.a = some ⟨b, 0, none⟩ ∧ A b ∧ K.ob b = .cells cs e kd ∧ kd.isRo = false ∧ cs.length = c.n * 5) := by
  obtain ⟨k, l, x, o, ks⟩ := t
  obtain ⟨w, _, he, hw, hn⟩ := nd_inv (rest := []) (by simpa using h)
  cases hn
  obtain ⟨q, rfl, hml, hq0, hq⟩ := row_at hw
  obtain ⟨ck, cl, cx, co, ca, cn, cc⟩ := c
  cases he
  refine ⟨rfl, ?_⟩
  rcases Nat.eq_zero_or_pos ks.length with g | g
  · exact .inl ⟨hq0 (List.length_eq_zero_iff.1 g), g, g⟩
  · obtain ⟨b, cs, e, kd, h1, h2, h3, h4, h5, _⟩ := hq 0 _ (List.getElem?_eq_getElem g)
    exact .inr ⟨b, cs, e, kd, h1, h2, h3, h4, h5⟩
theorem app_3 {K : CH} {c : NC} {bd : Nat} (hv : (c.a = none ∧ c.n = 0 ∧ c.c = 0) ∨ ∃ b cs kd, c.a = some ⟨b, 0, none⟩ ∧ b < bd ∧ K.ob b = .cells cs 28 kd ∧ kd.isRo = false ∧ cs.length = c.n * 5) (hbd : bd ≤ K.nx) (hn : c.n + 3 ≤ 2199023255552) {us : List Value} (hu : us.all isCell = true)
    {Q : Value → CH → Prop} (k : ∀ a cc K', K.nx ≤ K'.nx → (∀ b, bd ≤ b → b < K.nx → K'.ob b = K.ob b) → Q (.slice a (c.n + 3) cc) K') : optW (appV 28 5 64 (.slice c.a c.n c.c) us 3 K) Q := by
  rcases hv with ⟨h1, h2, h3⟩ | ⟨b, cs, kd, h1, h2, h3, h4, h5⟩
  · rw [h1, h2, h3, appV_n, if_neg (by decide), if_pos ⟨hu, by decide, by rw [maxLen_eq]; decide⟩, optW_some]
    have := k (some ⟨K.nx, 0, none⟩) 3 (K.new (.cells us 28 .gr)) (Nat.le_succ _) fun b hb hb' => new_ne (by omega)
    rw [h2] at this
    exact this
  · rw [h1, appV_r, h3, appR_c, if_neg (by decide), if_pos ⟨rfl, rfl, h4, by omega, hu, by omega, by rw [maxLen_eq]; omega⟩, optW_some]
    refine k _ _ _ (by unfold appH; split <;> exact Nat.le_succ _) fun b' hb hb' => ?_
    unfold appH
    split
    · exact new_ne (by omega)
    · rw [new_ne (by show b' ≠ K.nx; omega), set_get, if_neg (by omega)]
def OvJ (r0 n : Nat) (KC : CH) (m : Nat) (v11 : Value) (K : CH) : Prop := ∃ i cs, m = n - i ∧ i ≤ n ∧ v11 = .int .i64 (i : Nat) ∧ K.ob r0 = .cells cs 25 .gr ∧ cs.length = (n + 2) * 3 ∧ K.nx = KC.nx ∧ ∀ b, b ≠ r0 → K.ob b = KC.ob b
noncomputable def kpP : RCode × RCode × RCode × RCode × RCode × RCode := match (rF Try.prog 6).body with
  | .seq a (.seq b (.seq c (.seq d (.seq e f)))) => (a, b, c, d, e, f)
  | _ => (.skip, .skip, .skip, .skip, .skip, .skip)
theorem kp_body : (rF Try.prog 6).body = .seq kpP.1 (.seq kpP.2.1 (.seq kpP.2.2.1 (.seq kpP.2.2.2.1 (.seq kpP.2.2.2.2.1 kpP.2.2.2.2.2)))) := by kernel_rfl
theorem keeps_law {H : CH} {q : Option Addr} {c : Nat} {ts : List PT} (h : SlAt 3 CTk H q c ts) (hlen : ts.length ≤ 4398046510976) : WpF TL 6 [.slice q ts.length c] H fun v _ => v = .bool true := by
  refine wpF_rS (by rfl) (by kernel_rfl) ?_
  rw [kp_body]
  conv in (rF _ _).res => reduce
  have e : kpP.1 = _ := rfl
  conv at e => rhs; reduce
  rw [e]
  clear e
  have e : kpP.2.1 = _ := rfl
  conv at e => rhs; reduce
  rw [e]
  clear e
  repeat' (first | (simp (disch := first | omega | (decide +kernel) | (repeat first | assumption | exact HExt.refl _ | refine HExt.set ?_ (by first | omega | (simp only [new_nx, set_nx]; omega)) _ | refine HExt.new ?_ _)) only [↓RD, RU, accW_t, accW_f, isW, ↓putF_get, ↓putF_none, ↓evF_t, ↓evF_c, ↓evF_f, new_nx, set_nx, new_get, set_get, getD_zero, getD_succ, u_not, pop, lop, aop, wop, resL, resV, tupleV, akV, isVal, isCell, Value.cells, ρ0, ρ1, ρ2, ρ3, ρ4, ↓reduceIte, Nat.reduceEqDiff, Nat.reduceAdd, Int.reduceOfNat, Int.reduceNegSucc, reduceCtorEq, ρ5, ρ6, ρ7, ρ8, srcR_c, src_n, src_v, src_s, bnd, lenV, capV, ρ9, ρ10, ρ11, ρ12, ρ13, ρ14, ρ15, ρ16, ρ17, ρ18, ρ19, ρ20, ρ21, ρ22, ρ23, ρ24, Kd.isRo, ρ25, ρ26, bldV, Nat.reduceLeDiff, Int.reduceMul, Int.reduceAdd, Int.reduceSub, Int.reduceToNat, maxLen_eq, zeros_one, appS_some, appV_n, appV_v, appH_t, appH_f, Kd.isEx, ρ27, partV, CH.set_set, lkV, lkR, isKey, mupV, nxtV, ρ28, ρ29]) | (with_reducible first | refine condK_dec (fun _ => ?_) fun _ => ?_ | refine grd_dec (fun _ => ?_) fun _ => ?_ | refine egrd_dec (fun _ => ?_) fun _ => ?_))
  refine known_wp.mono ?_
  rintro v K ⟨hK, rfl⟩
  repeat' (first | (simp (disch := first | omega | (decide +kernel) | (repeat first | assumption | exact HExt.refl _ | refine HExt.set ?_ (by first | omega | (simp only [new_nx, set_nx]; omega)) _ | refine HExt.new ?_ _)) only [↓RD, RU, accW_t, accW_f, isW, ↓putF_get, ↓putF_none, ↓evF_t, ↓evF_c, ↓evF_f, new_nx, set_nx, new_get, set_get, getD_zero, getD_succ, u_not, pop, lop, aop, wop, resL, resV, tupleV, akV, isVal, isCell, Value.cells, ρ0, ρ1, ρ2, ρ3, ρ4, ↓reduceIte, Nat.reduceEqDiff, Nat.reduceAdd, Int.reduceOfNat, Int.reduceNegSucc, reduceCtorEq, ρ5, ρ6, ρ7, ρ8, srcR_c, src_n, src_v, src_s, bnd, lenV, capV, ρ9, ρ10, ρ11, ρ12, ρ13, ρ14, ρ15, ρ16, ρ17, ρ18, ρ19, ρ20, ρ21, ρ22, ρ23, ρ24, Kd.isRo, ρ25, ρ26, bldV, Nat.reduceLeDiff, Int.reduceMul, Int.reduceAdd, Int.reduceSub, Int.reduceToNat, maxLen_eq, zeros_one, appS_some, appV_n, appV_v, appH_t, appH_f, Kd.isEx, ρ27, partV, CH.set_set, lkV, lkR, isKey, mupV, nxtV, ρ28, ρ29]) | (with_reducible first | refine condK_dec (fun _ => ?_) fun _ => ?_ | refine grd_dec (fun _ => ?_) fun _ => ?_ | refine egrd_dec (fun _ => ?_) fun _ => ?_))
  have e : kpP.2.2.1 = _ := rfl
  conv at e => rhs; reduce
  rw [e]
  clear e
  obtain ⟨two, htwo⟩ : ∃ two : List PT, two = [⟨-7, 0, []⟩, ⟨-8, 0, []⟩] := ⟨_, rfl⟩
  repeat' (first | (simp (disch := first | omega | (decide +kernel) | (repeat first | assumption | exact HExt.refl _ | refine HExt.set ?_ (by first | omega | (simp only [new_nx, set_nx]; omega)) _ | refine HExt.new ?_ _)) only [↓r_seq, ↓r_block, ↓seqK_n, ↓seqK_r, ↓seqK_e, ↓blockK_n, ↓blockK_r, ↓blockK_e, ↓loopI_n, ↓loopI_r, ↓loopI_e, ↓funK_n, ↓funK_r, ↓r_reg, ↓r_drw, ↓r_cond, ↓condK_t, ↓condK_f, ↓i_cons, ↓eitemK, ↓e_nil, ↓e_cons, ↓e_grd, ↓egrd_tt, ↓egrd_ff, ↓egrd_tf, ↓egrd_ft, ↓egrd_s, ↓drwK, ↓r_drw2, ↓chk_nil, ↓chk_n, ↓chk_g, agL, agV_tt, agV_ff, agV_tf, agV_ft, agV_s, agE, accW_t, accW_f, isW, ↓i_grd, ↓grd_tt, ↓grd_ff, ↓grd_tf, ↓grd_ft, ↓grd_s, ↓itemK, ↓o_p, ↓o_l, ↓o_a, ↓o_w, ↓o_call, ↓o_callv, ↓callvK_f, ↓callvK_y, ↓r_range, ↓rangeV_f, ↓putF_get, ↓putF_none, ↓evF_t, ↓evF_c, ↓evF_f, new_nx, set_nx, new_get, set_get, optV_some, optW_some, optA_some, finK_some, ↓wpI_nil, ↓wpR_skip, ↓wpR_exit, ↓wpR_ret, getD_zero, getD_succ, b_add, b_sub, b_mul, b_quo, b_rem, b_eql, b_neq, b_lss, b_leq, b_gtr, b_geq, u_not, w_i64, w_u64, w_u8, t_div, t_mod, pop, lop, aop, wop, resL, resV, tupleV, akV, isVal, isCell, Value.cells, List.map_cons, List.map_nil, Bool.not_true, Bool.not_false, Option.map_some, ↓reduceIte, Nat.reduceEqDiff, Nat.reduceAdd, Int.reduceOfNat, Int.reduceNegSucc, decide_true, decide_false, reduceCtorEq, List.getElem?_cons_zero, List.getElem?_cons_succ, List.length_cons, List.length_nil, setc_0, setc_s, srcR_c, src_n, src_v, src_s, bnd, lenV, capV, Option.isSome_none, Option.isNone_none, Option.isSome_some, Option.isNone_some, Bool.or_false, Bool.or_true, Bool.true_or, Bool.false_or, List.take_succ_cons, List.take_zero, List.drop_succ_cons, List.drop_zero, List.cons_append, List.nil_append, List.append_nil, List.take_nil, List.drop_nil, List.all_cons, List.all_nil, Bool.and_true, Bool.true_and, Kd.isRo, List.size_toArray, List.getElem?_toArray, List.toList_toArray, bldV, Nat.reduceLeDiff, Nat.le_refl, u_neg, b_or0, Int.reduceMul, Int.reduceAdd, Int.reduceSub, Int.zero_mul, Int.zero_add, Int.add_zero, b_and3, b_and8, b_and24, b_shr2, b_shrs2, b_shr8, b_shr32, b_shr56, b_shl2, b_shl8, b_shl32, toNat_add1, toNat_add2, toNat_addn, toNat_add2n, Int.reduceToNat, maxLen_eq, zeros_one, zeros_two, zeros_three, take_mapl, List.length_map, List.map_append, List.length_append, beq_self_eq_true, beq_true, beq_false, Bool.false_xor, Bool.true_xor, Bool.xor_false, Bool.xor_true, dec_t, dec_f, ↓w_app, appS_some, appV_n, appV_v, appH_t, appH_f, Kd.isEx, Bool.false_and, partV, if_pos, if_neg, Nat.mul_one, Nat.one_mul, Nat.zero_add, Nat.add_zero, Int.toNat_natCast, true_and, and_true, zeros, Nat.zero_mul]) | (with_reducible first | refine condK_dec (fun _ => ?_) fun _ => ?_ | refine grd_dec (fun _ => ?_) fun _ => ?_ | refine egrd_dec (fun _ => ?_) fun _ => ?_))
  rw [src_tok (slat_ext h (hK.new _)), appS_some]
  have hfl : ∀ us : List PT, (us.flatMap tokV).length = us.length * 3 := fun us => flat_len (f := tokV) (sz := 3) (fun x => (tok_ok x).1) us
  refine rm_app (A := K) (xs := []) (ys := ts) ⟨K.nx, _, _, .ex, rfl, Nat.le_refl _, Nat.lt_succ_self _, new_get.trans (if_pos rfl), rfl, by simp, by simp⟩ ((HExt.refl K).new _) (by simp only [List.length_nil]; omega) rfl rfl fun v1 K1 hr1 hx1 _ => ?_
  rw [List.nil_append] at hr1
  repeat' (first | (simp (disch := first | omega | (decide +kernel) | (repeat first | assumption | exact HExt.refl _ | refine HExt.set ?_ (by first | omega | (simp only [new_nx, set_nx]; omega)) _ | refine HExt.new ?_ _)) only [↓r_seq, ↓r_block, ↓seqK_n, ↓seqK_r, ↓seqK_e, ↓blockK_n, ↓blockK_r, ↓blockK_e, ↓loopI_n, ↓loopI_r, ↓loopI_e, ↓funK_n, ↓funK_r, ↓r_reg, ↓r_drw, ↓r_cond, ↓condK_t, ↓condK_f, ↓i_cons, ↓eitemK, ↓e_nil, ↓e_cons, ↓e_grd, ↓egrd_tt, ↓egrd_ff, ↓egrd_tf, ↓egrd_ft, ↓egrd_s, ↓drwK, ↓r_drw2, ↓chk_nil, ↓chk_n, ↓chk_g, agL, agV_tt, agV_ff, agV_tf, agV_ft, agV_s, agE, accW_t, accW_f, isW, ↓i_grd, ↓grd_tt, ↓grd_ff, ↓grd_tf, ↓grd_ft, ↓grd_s, ↓itemK, ↓o_p, ↓o_l, ↓o_a, ↓o_w, ↓o_call, ↓o_callv, ↓callvK_f, ↓callvK_y, ↓r_range, ↓rangeV_f, ↓putF_get, ↓putF_none, ↓evF_t, ↓evF_c, ↓evF_f, new_nx, set_nx, new_get, set_get, optV_some, optW_some, optA_some, finK_some, ↓wpI_nil, ↓wpR_skip, ↓wpR_exit, ↓wpR_ret, getD_zero, getD_succ, b_add, b_sub, b_mul, b_quo, b_rem, b_eql, b_neq, b_lss, b_leq, b_gtr, b_geq, u_not, w_i64, w_u64, w_u8, t_div, t_mod, pop, lop, aop, wop, resL, resV, tupleV, akV, isVal, isCell, Value.cells, List.map_cons, List.map_nil, Bool.not_true, Bool.not_false, Option.map_some, ↓reduceIte, Nat.reduceEqDiff, Nat.reduceAdd, Int.reduceOfNat, Int.reduceNegSucc, decide_true, decide_false, reduceCtorEq, List.getElem?_cons_zero, List.getElem?_cons_succ, List.length_cons, List.length_nil, setc_0, setc_s, srcR_c, src_n, src_v, src_s, bnd, lenV, capV, Option.isSome_none, Option.isNone_none, Option.isSome_some, Option.isNone_some, Bool.or_false, Bool.or_true, Bool.true_or, Bool.false_or, List.take_succ_cons, List.take_zero, List.drop_succ_cons, List.drop_zero, List.cons_append, List.nil_append, List.append_nil, List.take_nil, List.drop_nil, List.all_cons, List.all_nil, Bool.and_true, Bool.true_and, Kd.isRo, List.size_toArray, List.getElem?_toArray, List.toList_toArray, bldV, Nat.reduceLeDiff, Nat.le_refl, u_neg, b_or0, Int.reduceMul, Int.reduceAdd, Int.reduceSub, Int.zero_mul, Int.zero_add, Int.add_zero, b_and3, b_and8, b_and24, b_shr2, b_shrs2, b_shr8, b_shr32, b_shr56, b_shl2, b_shl8, b_shl32, toNat_add1, toNat_add2, toNat_addn, toNat_add2n, Int.reduceToNat, maxLen_eq, zeros_one, zeros_two, zeros_three, take_mapl, List.length_map, List.map_append, List.length_append, beq_self_eq_true, beq_true, beq_false, Bool.false_xor, Bool.true_xor, Bool.xor_false, Bool.xor_true, dec_t, dec_f, ↓w_app, appS_some, appV_n, appV_v, appH_t, appH_f, Kd.isEx, Bool.false_and, partV, if_pos, if_neg, Nat.mul_one, Nat.one_mul, Nat.zero_add, Nat.add_zero, Int.toNat_natCast, true_and, and_true, Nat.zero_mul, Nat.one_mul, zeros, List.replicate, List.flatten_cons, List.flatten_nil]) | (with_reducible first | refine condK_dec (fun _ => ?_) fun _ => ?_ | refine grd_dec (fun _ => ?_) fun _ => ?_ | refine egrd_dec (fun _ => ?_) fun _ => ?_))
  repeat' (first | (simp (disch := first | omega | (decide +kernel) | (repeat first | assumption | exact HExt.refl _ | refine HExt.set ?_ (by first | omega | (simp only [new_nx, set_nx]; omega)) _ | refine HExt.new ?_ _)) only [↓r_seq, ↓r_block, ↓seqK_n, ↓seqK_r, ↓seqK_e, ↓blockK_n, ↓blockK_r, ↓blockK_e, ↓loopI_n, ↓loopI_r, ↓loopI_e, ↓funK_n, ↓funK_r, ↓r_reg, ↓r_drw, ↓r_cond, ↓condK_t, ↓condK_f, ↓i_cons, ↓eitemK, ↓e_nil, ↓e_cons, ↓e_grd, ↓egrd_tt, ↓egrd_ff, ↓egrd_tf, ↓egrd_ft, ↓egrd_s, ↓drwK, ↓r_drw2, ↓chk_nil, ↓chk_n, ↓chk_g, agL, agV_tt, agV_ff, agV_tf, agV_ft, agV_s, agE, accW_t, accW_f, isW, ↓i_grd, ↓grd_tt, ↓grd_ff, ↓grd_tf, ↓grd_ft, ↓grd_s, ↓itemK, ↓o_p, ↓o_l, ↓o_a, ↓o_w, ↓o_call, ↓o_callv, ↓callvK_f, ↓callvK_y, ↓r_range, ↓rangeV_f, ↓putF_get, ↓putF_none, ↓evF_t, ↓evF_c, ↓evF_f, new_nx, set_nx, new_get, set_get, optV_some, optW_some, optA_some, finK_some, ↓wpI_nil, ↓wpR_skip, ↓wpR_exit, ↓wpR_ret, getD_zero, getD_succ, b_add, b_sub, b_mul, b_quo, b_rem, b_eql, b_neq, b_lss, b_leq, b_gtr, b_geq, u_not, w_i64, w_u64, w_u8, t_div, t_mod, pop, lop, aop, wop, resL, resV, tupleV, akV, isVal, isCell, Value.cells, List.map_cons, List.map_nil, Bool.not_true, Bool.not_false, Option.map_some, ↓reduceIte, Nat.reduceEqDiff, Nat.reduceAdd, Int.reduceOfNat, Int.reduceNegSucc, decide_true, decide_false, reduceCtorEq, List.getElem?_cons_zero, List.getElem?_cons_succ, List.length_cons, List.length_nil, setc_0, setc_s, srcR_c, src_n, src_v, src_r, src_s, bnd, lenV, capV, Option.isSome_none, Option.isNone_none, Option.isSome_some, Option.isNone_some, Bool.or_false, Bool.or_true, Bool.true_or, Bool.false_or, List.take_succ_cons, List.take_zero, List.drop_succ_cons, List.drop_zero, List.cons_append, List.nil_append, List.append_nil, List.take_nil, List.drop_nil, List.all_cons, List.all_nil, Bool.and_true, Bool.true_and, Kd.isRo, List.size_toArray, List.getElem?_toArray, List.toList_toArray, bldV, Nat.reduceLeDiff, Nat.le_refl, u_neg, b_or0, Int.reduceMul, Int.reduceAdd, Int.reduceSub, Int.zero_mul, Int.zero_add, Int.add_zero, b_and3, b_and8, b_and24, b_shr2, b_shrs2, b_shr8, b_shr32, b_shr56, b_shl2, b_shl8, b_shl32, toNat_add1, toNat_add2, toNat_addn, toNat_add2n, Int.reduceToNat, maxLen_eq, zeros_one, zeros_two, zeros_three, take_mapl, List.length_map, List.map_append, List.length_append, beq_self_eq_true, beq_true, beq_false, Bool.false_xor, Bool.true_xor, Bool.xor_false, Bool.xor_true, dec_t, dec_f, ↓w_app, appS_some, appV_n, appV_v, appH_t, appH_f, Kd.isEx, Bool.false_and, partV, if_pos, if_neg, Nat.mul_one, Nat.one_mul, Nat.zero_add, Nat.add_zero, Int.toNat_natCast, true_and, and_true]) | (with_reducible first | refine condK_dec (fun _ => ?_) fun _ => ?_ | refine grd_dec (fun _ => ?_) fun _ => ?_ | refine egrd_dec (fun _ => ?_) fun _ => ?_))
  have hn1 := hx1.nx
  have hx1' : HExt K (K1.new (.cells (zeros [.int .i64 0] 0) 25 .ex)) := hx1.new _
  have htc : [Value.int .i64 (-7), .int .i64 0, .string ⟨⟨[]⟩⟩, .int .i64 (-8), .int .i64 0, .string ⟨⟨[]⟩⟩] = two.flatMap tokV := by rw [htwo]; rfl
  have htl : 2 = two.length := by rw [htwo]; rfl
  refine rm_app (A := K) (xs := ts) (ys := two) ?_ (hx1.new _) (by rw [← htl]; omega) htc htl fun v2 K2 hr2 hx2 hex => ?_
  · obtain ⟨b, c, cs, kd, e1, e2, e3, e4, e5⟩ := hr1
    exact ⟨b, c, cs, kd, e1, e2, Nat.lt_succ_of_lt e3, (new_ne (Nat.ne_of_lt e3)).trans e4, e5⟩
  obtain ⟨r0, hr0, hr0K, rfl, or0⟩ := hex (by rw [htwo]; simp)
  have hul : (ts ++ two).length = ts.length + 2 := by rw [List.length_append, ← htl]
  rw [hul]
  have e : kpP.2.2.2.1 = _ := rfl
  conv at e => rhs; reduce
  rw [e]
  clear e
  have hst := sl_tok (b := r0) (n := ts.length + 2) (j := ts.length) (c := ts.length + 2) (by omega) (by omega)
  repeat' (first | (simp (disch := first | omega | (decide +kernel) | (repeat first | assumption | exact HExt.refl _ | refine HExt.set ?_ (by first | omega | (simp only [new_nx, set_nx]; omega)) _ | refine HExt.new ?_ _)) only [↓RD, RU, accW_t, accW_f, isW, ↓putF_get, ↓putF_none, ↓evF_t, ↓evF_c, ↓evF_f, new_nx, set_nx, new_get, set_get, getD_zero, getD_succ, u_not, pop, lop, aop, wop, resL, resV, tupleV, akV, isVal, isCell, Value.cells, ρ0, ρ1, ρ2, ρ3, ρ4, ↓reduceIte, Nat.reduceEqDiff, Nat.reduceAdd, Int.reduceOfNat, Int.reduceNegSucc, reduceCtorEq, ρ5, ρ6, ρ7, ρ8, srcR_c, src_n, src_v, src_s, bnd, lenV, capV, ρ9, ρ10, ρ11, ρ12, ρ13, ρ14, ρ15, ρ16, ρ17, ρ18, ρ19, ρ20, ρ21, ρ22, ρ23, ρ24, Kd.isRo, ρ25, ρ26, bldV, Nat.reduceLeDiff, Int.reduceMul, Int.reduceAdd, Int.reduceSub, Int.reduceToNat, maxLen_eq, zeros_one, appS_some, appV_n, appV_v, appH_t, appH_f, Kd.isEx, ρ27, partV, CH.set_set, lkV, lkR, isKey, mupV, nxtV, ρ28, ρ29, hst, okSl_c, okC_t, or0]) | (with_reducible first | refine condK_dec (fun _ => ?_) fun _ => ?_ | refine grd_dec (fun _ => ?_) fun _ => ?_ | refine egrd_dec (fun _ => ?_) fun _ => ?_))
  have htk2 := slat_pre (c := ts.length + 2) hr0K or0 (by omega) (by omega)
  refine (parse_wp2 (sl := ⟨some ⟨r0, 0, none⟩, ts.length, ts.length + 2⟩) htk2 rfl hlen).mono ?_
  rintro v K3 ⟨vs, rfl, ⟨hx3, osa, rfl, hsa⟩, hty⟩
  obtain ⟨ca, rfl⟩ := nd_nc hsa
  have or3 := (hx3.ob r0 hr0K).trans or0
  have hr3 : r0 < K3.nx := Nat.lt_of_lt_of_le hr0K hx3.nx
  have hne3 : r0 ≠ K3.nx := by omega
  have e : kpP.2.2.2.2.1 = _ := rfl
  conv at e => rhs; reduce
  rw [e]
  clear e
  repeat' (first | (simp (disch := first | omega | (decide +kernel) | (repeat first | assumption | exact HExt.refl _ | refine HExt.set ?_ (by first | omega | (simp only [new_nx, set_nx]; omega)) _ | refine HExt.new ?_ _)) only [↓RD, RU, accW_t, accW_f, isW, ↓putF_get, ↓putF_none, ↓evF_t, ↓evF_c, ↓evF_f, new_nx, set_nx, new_get, set_get, getD_zero, getD_succ, u_not, pop, lop, aop, wop, resL, resV, tupleV, akV, isVal, isCell, Value.cells, ρ0, ρ1, ρ2, ρ3, ρ4, ↓reduceIte, Nat.reduceEqDiff, Nat.reduceAdd, Int.reduceOfNat, Int.reduceNegSucc, reduceCtorEq, ρ5, ρ6, ρ7, ρ8, srcR_c, src_n, src_v, src_s, bnd, lenV, capV, ρ9, ρ10, ρ11, ρ12, ρ13, ρ14, ρ15, ρ16, ρ17, ρ18, ρ19, ρ20, ρ21, ρ22, ρ23, ρ24, Kd.isRo, ρ25, ρ26, bldV, Nat.reduceLeDiff, Int.reduceMul, Int.reduceAdd, Int.reduceSub, Int.reduceToNat, maxLen_eq, zeros_one, appS_some, appV_n, appV_v, appH_t, appH_f, Kd.isEx, ρ27, partV, CH.set_set, lkV, lkR, isKey, mupV, nxtV, ρ28, ρ29, hst, okSl_c, okC_t, or3, hne3, ncV]) | (with_reducible first | refine condK_dec (fun _ => ?_) fun _ => ?_ | refine grd_dec (fun _ => ?_) fun _ => ?_ | refine egrd_dec (fun _ => ?_) fun _ => ?_))
  obtain ⟨KA, hKA, xA, nA, oA⟩ := nbox_p K3 ca
  refine (?_ : WpF TL _ _ (nbox K3 ca) _)
  rw [hKA]
  refine (parse_wp (sl := ⟨some ⟨r0, 0, none⟩, ts.length, ts.length + 2⟩) (slat_ext htk2 (hx3.trans xA)) rfl hlen).mono ?_
  rintro v K4 ⟨vs, rfl, hx4, osb, rfl, hsb⟩
  obtain ⟨cb, rfl⟩ := nd_nc hsb
  have oA4 := (hx4.ob K3.nx (by omega)).trans oA
  have or4 := ((xA.trans hx4).ob r0 hr3).trans or3
  have hn4 := hx4.nx
  have hneA : K3.nx ≠ K4.nx := by omega
  have hne4 : r0 ≠ K4.nx := by omega
  have e : kpP.2.2.2.2.2 = _ := rfl
  conv at e => rhs; reduce
  rw [e]
  clear e
  repeat' (first | (simp (disch := first | omega | (decide +kernel) | (repeat first | assumption | exact HExt.refl _ | refine HExt.set ?_ (by first | omega | (simp only [new_nx, set_nx]; omega)) _ | refine HExt.new ?_ _)) only [↓RD, RU, accW_t, accW_f, isW, ↓putF_get, ↓putF_none, ↓evF_t, ↓evF_c, ↓evF_f, new_nx, set_nx, new_get, set_get, getD_zero, getD_succ, u_not, pop, lop, aop, wop, resL, resV, tupleV, akV, isVal, isCell, Value.cells, ρ0, ρ1, ρ2, ρ3, ρ4, ↓reduceIte, Nat.reduceEqDiff, Nat.reduceAdd, Int.reduceOfNat, Int.reduceNegSucc, reduceCtorEq, ρ5, ρ6, ρ7, ρ8, srcR_c, src_n, src_v, src_s, bnd, lenV, capV, ρ9, ρ10, ρ11, ρ12, ρ13, ρ14, ρ15, ρ16, ρ17, ρ18, ρ19, ρ20, ρ21, ρ22, ρ23, ρ24, Kd.isRo, ρ25, ρ26, bldV, Nat.reduceLeDiff, Int.reduceMul, Int.reduceAdd, Int.reduceSub, Int.reduceToNat, maxLen_eq, zeros_one, appS_some, appV_n, appV_v, appH_t, appH_f, Kd.isEx, ρ27, partV, CH.set_set, lkV, lkR, isKey, mupV, nxtV, ρ28, ρ29, ncV, oA4, hneA]) | (with_reducible first | refine condK_dec (fun _ => ?_) fun _ => ?_ | refine grd_dec (fun _ => ?_) fun _ => ?_ | refine egrd_dec (fun _ => ?_) fun _ => ?_))
  obtain ⟨KB, hKB, xB, nB, oB⟩ := nbox_p K4 cb
  refine (?_ : WpF TL _ _ (nbox K4 cb) _)
  rw [hKB]
  have sa4 : SVRs KB (fun b => b < K3.nx) (ndS (parseT ts).1) (ncV ca) := hsa.mv fun b hb => ⟨hb.2, (xB.ob b (by omega)).trans ((hx4.ob b (by omega)).trans (xA.ob b hb.2))⟩
  refine (copy_wp _ ts.length (parseT ts).1 (Nat.lt_succ_self _) (parse_kd ts) (by omega) KB (fun b => b < K3.nx) (ncV ca) (fun b hb => by omega) sa4).mono ?_
  rintro v K5 ⟨hx5, osw, rfl, hsw⟩
  obtain ⟨cw, rfl⟩ := nd_nc hsw
  have hn5 := hx5.nx
  repeat' (first | (simp (disch := first | omega | (decide +kernel) | (repeat first | assumption | exact HExt.refl _ | refine HExt.set ?_ (by first | omega | (simp only [new_nx, set_nx]; omega)) _ | refine HExt.new ?_ _)) only [↓RD, RU, accW_t, accW_f, isW, ↓putF_get, ↓putF_none, ↓evF_t, ↓evF_c, ↓evF_f, new_nx, set_nx, new_get, set_get, getD_zero, getD_succ, u_not, pop, lop, aop, wop, resL, resV, tupleV, akV, isVal, isCell, Value.cells, ρ0, ρ1, ρ2, ρ3, ρ4, ↓reduceIte, Nat.reduceEqDiff, Nat.reduceAdd, Int.reduceOfNat, Int.reduceNegSucc, reduceCtorEq, ρ5, ρ6, ρ7, ρ8, srcR_c, src_n, src_v, src_s, bnd, lenV, capV, ρ9, ρ10, ρ11, ρ12, ρ13, ρ14, ρ15, ρ16, ρ17, ρ18, ρ19, ρ20, ρ21, ρ22, ρ23, ρ24, Kd.isRo, ρ25, ρ26, bldV, Nat.reduceLeDiff, Int.reduceMul, Int.reduceAdd, Int.reduceSub, Int.reduceToNat, maxLen_eq, zeros_one, appS_some, appV_n, appV_v, appH_t, appH_f, Kd.isEx, ρ27, partV, CH.set_set, lkV, lkR, isKey, mupV, nxtV, ρ28, ρ29, ncV]) | (with_reducible first | refine condK_dec (fun _ => ?_) fun _ => ?_ | refine grd_dec (fun _ => ?_) fun _ => ?_ | refine egrd_dec (fun _ => ?_) fun _ => ?_))
  obtain ⟨KC, hKC, xC, nC, oC⟩ := nbox_p K5 cw
  have or5 := (hx5.ob r0 (by omega)).trans ((xB.ob r0 (by omega)).trans or4)
  have hne5 : r0 ≠ K5.nx := by omega
  repeat' (first | (simp (disch := first | omega | (decide +kernel) | (repeat first | assumption | exact HExt.refl _ | refine HExt.set ?_ (by first | omega | (simp only [new_nx, set_nx]; omega)) _ | refine HExt.new ?_ _)) only [↓RD, RU, accW_t, accW_f, isW, ↓putF_get, ↓putF_none, ↓evF_t, ↓evF_c, ↓evF_f, new_nx, set_nx, new_get, set_get, getD_zero, getD_succ, u_not, pop, lop, aop, wop, resL, resV, tupleV, akV, isVal, isCell, Value.cells, ρ0, ρ1, ρ2, ρ3, ρ4, ↓reduceIte, Nat.reduceEqDiff, Nat.reduceAdd, Int.reduceOfNat, Int.reduceNegSucc, reduceCtorEq, ρ5, ρ6, ρ7, ρ8, srcR_c, src_n, src_v, src_s, bnd, lenV, capV, ρ9, ρ10, ρ11, ρ12, ρ13, ρ14, ρ15, ρ16, ρ17, ρ18, ρ19, ρ20, ρ21, ρ22, ρ23, ρ24, Kd.isRo, ρ25, ρ26, bldV, Nat.reduceLeDiff, Int.reduceMul, Int.reduceAdd, Int.reduceSub, Int.reduceToNat, maxLen_eq, zeros_one, appS_some, appV_n, appV_v, appH_t, appH_f, Kd.isEx, ρ27, partV, CH.set_set, lkV, lkR, isKey, mupV, nxtV, ρ28, ρ29, hst, okSl_c, okC_t, or5, hne5]) | (with_reducible first | refine condK_dec (fun _ => ?_) fun _ => ?_ | refine grd_dec (fun _ => ?_) fun _ => ?_ | refine egrd_dec (fun _ => ?_) fun _ => ?_))
  refine (?_ : WpF TL _ _ (nbox K5 cw) _)
  rw [hKC]
  have hxC : HExt K2 KC := (((hx3.trans xA).trans hx4).trans xB).trans (hx5.trans xC)
  have hxC' : HExt H KC := (hK.trans hx2).trans hxC
  refine (tsame_wp KC (slat_ext htk2 hxC) (slat_ext h hxC') (by omega)).mono ?_
  rintro v K6 ⟨rfl, e6⟩
  obtain rfl := e6.symm
  have orC := (xC.ob r0 (by omega)).trans or5
  have hfl2 : ((ts ++ two).flatMap tokV).length = (ts.length + 2) * 3 := by rw [hfl, hul]
  have c7 : ((ts ++ two).flatMap tokV)[ts.length * 3]? = some (.int .i64 (-7)) := by
    rw [List.flatMap_append, List.getElem?_append_right (by rw [hfl]; exact Nat.le_refl _), hfl, Nat.sub_self, htwo]; rfl
  have c8 : ((ts ++ two).flatMap tokV)[(ts.length + 1) * 3]? = some (.int .i64 (-8)) := by
    rw [List.flatMap_append, List.getElem?_append_right (by rw [hfl]; omega), hfl, show (ts.length + 1) * 3 - ts.length * 3 = 3 by omega, htwo]; rfl
  repeat' (first | (simp (disch := first | omega | (decide +kernel) | (repeat first | assumption | exact HExt.refl _ | refine HExt.set ?_ (by first | omega | (simp only [new_nx, set_nx]; omega)) _ | refine HExt.new ?_ _)) only [↓RD, RU, accW_t, accW_f, isW, ↓putF_get, ↓putF_none, ↓evF_t, ↓evF_c, ↓evF_f, new_nx, set_nx, new_get, set_get, getD_zero, getD_succ, u_not, pop, lop, aop, wop, resL, resV, tupleV, akV, isVal, isCell, Value.cells, ρ0, ρ1, ρ2, ρ3, ρ4, ↓reduceIte, Nat.reduceEqDiff, Nat.reduceAdd, Int.reduceOfNat, Int.reduceNegSucc, reduceCtorEq, ρ5, ρ6, ρ7, ρ8, srcR_c, src_n, src_v, src_s, bnd, lenV, capV, ρ9, ρ10, ρ11, ρ12, ρ13, ρ14, ρ15, ρ16, ρ17, ρ18, ρ19, ρ20, ρ21, ρ22, ρ23, ρ24, Kd.isRo, ρ25, ρ26, bldV, Nat.reduceLeDiff, Int.reduceMul, Int.reduceAdd, Int.reduceSub, Int.reduceToNat, maxLen_eq, zeros_one, appS_some, appV_n, appV_v, appH_t, appH_f, Kd.isEx, ρ27, partV, CH.set_set, lkV, lkR, isKey, mupV, nxtV, ρ28, ρ29, orC, c7, c8, hfl2, Nat.zero_add, Nat.add_zero]) | (with_reducible first | refine condK_dec (fun _ => ?_) fun _ => ?_ | refine grd_dec (fun _ => ?_) fun _ => ?_ | refine egrd_dec (fun _ => ?_) fun _ => ?_))
  refine loop_w (fun n fr K1 => OvJ r0 ts.length KC n (fr 11) K1) (n := ts.length) ⟨0, _, rfl, Nat.zero_le _, by (repeat' (first | (simp (disch := first | omega | (decide +kernel) | (repeat first | assumption | exact HExt.refl _ | refine HExt.set ?_ (by first | omega | (simp only [new_nx, set_nx]; omega)) _ | refine HExt.new ?_ _)) only [↓RD, RU, accW_t, accW_f, isW, ↓putF_get, ↓putF_none, ↓evF_t, ↓evF_c, ↓evF_f, new_nx, set_nx, new_get, set_get, getD_zero, getD_succ, u_not, pop, lop, aop, wop, resL, resV, tupleV, akV, isVal, isCell, Value.cells, ρ0, ρ1, ρ2, ρ3, ρ4, ↓reduceIte, Nat.reduceEqDiff, Nat.reduceAdd, Int.reduceOfNat, Int.reduceNegSucc, reduceCtorEq, ρ5, ρ6, ρ7, ρ8, srcR_c, src_n, src_v, src_s, bnd, lenV, capV, ρ9, ρ10, ρ11, ρ12, ρ13, ρ14, ρ15, ρ16, ρ17, ρ18, ρ19, ρ20, ρ21, ρ22, ρ23, ρ24, Kd.isRo, ρ25, ρ26, bldV, Nat.reduceLeDiff, Int.reduceMul, Int.reduceAdd, Int.reduceSub, Int.reduceToNat, maxLen_eq, zeros_one, appS_some, appV_n, appV_v, appH_t, appH_f, Kd.isEx, ρ27, partV, CH.set_set, lkV, lkR, isKey, mupV, nxtV, ρ28, ρ29]) | (with_reducible first | refine condK_dec (fun _ => ?_) fun _ => ?_ | refine grd_dec (fun _ => ?_) fun _ => ?_ | refine egrd_dec (fun _ => ?_) fun _ => ?_)); all_goals rfl), orC, hfl2, rfl, fun _ _ => rfl⟩ ?_
  rintro n fr K7 ⟨i, cs, rfl, hi, f11, or7, hcl, hn7, hk7⟩ hag
  by_cases hil : i < ts.length
  · have hi3 : i * 3 + 3 ≤ (ts.length + 2) * 3 := by omega
    repeat' (first | (simp (disch := first | omega | (decide +kernel) | (repeat first | assumption | exact HExt.refl _ | refine HExt.set ?_ (by first | omega | (simp only [new_nx, set_nx]; omega)) _ | refine HExt.new ?_ _)) only [↓RD, RU, accW_t, accW_f, isW, ↓putF_get, ↓putF_none, ↓evF_t, ↓evF_c, ↓evF_f, new_nx, set_nx, new_get, set_get, getD_zero, getD_succ, u_not, pop, lop, aop, wop, resL, resV, tupleV, akV, isVal, isCell, Value.cells, ρ0, ρ1, ρ2, ρ3, ρ4, ↓reduceIte, Nat.reduceEqDiff, Nat.reduceAdd, Int.reduceOfNat, Int.reduceNegSucc, reduceCtorEq, ρ5, ρ6, ρ7, ρ8, srcR_c, src_n, src_v, src_s, bnd, lenV, capV, ρ9, ρ10, ρ11, ρ12, ρ13, ρ14, ρ15, ρ16, ρ17, ρ18, ρ19, ρ20, ρ21, ρ22, ρ23, ρ24, Kd.isRo, ρ25, ρ26, bldV, Nat.reduceLeDiff, Int.reduceMul, Int.reduceAdd, Int.reduceSub, Int.reduceToNat, maxLen_eq, zeros_one, appS_some, appV_n, appV_v, appH_t, appH_f, Kd.isEx, ρ27, partV, CH.set_set, lkV, lkR, isKey, mupV, nxtV, ρ28, ρ29, hag, f11, or7, hcl, hi3, Nat.zero_mul]) | (with_reducible first | refine condK_dec (fun _ => ?_) fun _ => ?_ | refine grd_dec (fun _ => ?_) fun _ => ?_ | refine egrd_dec (fun _ => ?_) fun _ => ?_))
    exact ⟨ts.length - (i + 1), by omega, i + 1, _, rfl, hil, rfl, set_get.trans (if_pos rfl), (setCells_length (by rw [hcl]; exact hi3)).trans hcl, hn7, fun b hb => (set_get.trans (if_neg hb)).trans (hk7 b hb)⟩
  have hil : i = ts.length := by omega
  subst hil
  have hnC : KC.nx = K5.nx + 1 := nC
  have k4 : ∀ b, b < K4.nx → b ≠ r0 → K7.ob b = K4.ob b := fun b hb hb' => (hk7 b hb').trans (((xB.trans hx5).trans xC).ob b hb)
  have o4 : K7.ob K3.nx = _ := (k4 K3.nx (by omega) (by omega)).trans oA4
  have o7 : K7.ob K4.nx = _ := (hk7 K4.nx (by omega)).trans (((hx5.trans xC).ob K4.nx (by omega)).trans oB)
  have o10 : K7.ob K5.nx = _ := (hk7 K5.nx (by omega)).trans oC
  have sa7 : SVRs K7 (fun b => K2.nx ≤ b ∧ b < K3.nx) (ndS (parseT ts).1) (ncV ca) := hsa.mv fun b hb => ⟨hb, by have := hb.1; have := hb.2; rw [k4 b (by omega) (by omega)]; exact (xA.trans hx4).ob b hb.2⟩
  have sb7 : SVRs K7 (fun b => K3.nx < b ∧ b < K4.nx) (ndS (parseT ts).1) (ncV cb) := hsb.mv fun b hb => ⟨⟨by have := hb.1; omega, hb.2⟩, by have := hb.1; have := hb.2; exact k4 b (by omega) (by omega)⟩
  have sw7 : SVRs K7 (fun b => K4.nx < b ∧ b < K5.nx) (ndS (parseT ts).1) (ncV cw) := hsw.mv fun b hb => ⟨⟨by have := hb.1; omega, hb.2⟩, by have := hb.1; have := hb.2; exact (hk7 b (by omega)).trans (xC.ob b hb.2)⟩
  have hsm := same_wp true (fun b hb => by have := hb.2; omega) (fun b hb => by have := hb.2; omega) sa7 sw7
  rw [sameN_refl] at hsm
  repeat' (first | (simp (disch := first | omega | (decide +kernel) | (repeat first | assumption | exact HExt.refl _ | refine HExt.set ?_ (by first | omega | (simp only [new_nx, set_nx]; omega)) _ | refine HExt.new ?_ _)) only [↓RD, RU, accW_t, accW_f, isW, ↓putF_get, ↓putF_none, ↓evF_t, ↓evF_c, ↓evF_f, new_nx, set_nx, new_get, set_get, getD_zero, getD_succ, u_not, pop, lop, aop, wop, resL, resV, tupleV, akV, isVal, isCell, Value.cells, ρ0, ρ1, ρ2, ρ3, ρ4, ↓reduceIte, Nat.reduceEqDiff, Nat.reduceAdd, Int.reduceOfNat, Int.reduceNegSucc, reduceCtorEq, ρ5, ρ6, ρ7, ρ8, srcR_c, src_n, src_v, src_s, bnd, lenV, capV, ρ9, ρ10, ρ11, ρ12, ρ13, ρ14, ρ15, ρ16, ρ17, ρ18, ρ19, ρ20, ρ21, ρ22, ρ23, ρ24, Kd.isRo, ρ25, ρ26, bldV, Nat.reduceLeDiff, Int.reduceMul, Int.reduceAdd, Int.reduceSub, Int.reduceToNat, maxLen_eq, zeros_one, appS_some, appV_n, appV_v, appH_t, appH_f, Kd.isEx, ρ27, partV, CH.set_set, lkV, lkR, isKey, mupV, nxtV, ρ28, ρ29, hag, f11, o4, o10]) | (with_reducible first | refine condK_dec (fun _ => ?_) fun _ => ?_ | refine grd_dec (fun _ => ?_) fun _ => ?_ | refine egrd_dec (fun _ => ?_) fun _ => ?_))
  refine hsm.mono ?_
  rintro v K8 ⟨hx8, rfl⟩
  have hn8 := hx8.nx
  have o4' := (hx8.ob K3.nx (by omega)).trans o4
  have o7' := (hx8.ob K4.nx (by omega)).trans o7
  have o10' := (hx8.ob K5.nx (by omega)).trans o10
  have sb8 := sb7.mv (K' := K8) (A' := fun b => K3.nx < b ∧ b < K4.nx) fun b hb => ⟨hb, hx8.ob b (by have := hb.2; omega)⟩
  have sw8 := sw7.mv (K' := K8) (A' := fun b => K4.nx < b ∧ b < K5.nx) fun b hb => ⟨hb, hx8.ob b (by have := hb.2; omega)⟩
  have hsm := same_wp true (fun b hb => by have := hb.2; omega) (fun b hb => by have := hb.2; omega) sb8 sw8
  rw [sameN_refl] at hsm
  repeat' (first | (simp (disch := first | omega | (decide +kernel) | (repeat first | assumption | exact HExt.refl _ | refine HExt.set ?_ (by first | omega | (simp only [new_nx, set_nx]; omega)) _ | refine HExt.new ?_ _)) only [↓RD, RU, accW_t, accW_f, isW, ↓putF_get, ↓putF_none, ↓evF_t, ↓evF_c, ↓evF_f, new_nx, set_nx, new_get, set_get, getD_zero, getD_succ, u_not, pop, lop, aop, wop, resL, resV, tupleV, akV, isVal, isCell, Value.cells, ρ0, ρ1, ρ2, ρ3, ρ4, ↓reduceIte, Nat.reduceEqDiff, Nat.reduceAdd, Int.reduceOfNat, Int.reduceNegSucc, reduceCtorEq, ρ5, ρ6, ρ7, ρ8, srcR_c, src_n, src_v, src_s, bnd, lenV, capV, ρ9, ρ10, ρ11, ρ12, ρ13, ρ14, ρ15, ρ16, ρ17, ρ18, ρ19, ρ20, ρ21, ρ22, ρ23, ρ24, Kd.isRo, ρ25, ρ26, bldV, Nat.reduceLeDiff, Int.reduceMul, Int.reduceAdd, Int.reduceSub, Int.reduceToNat, maxLen_eq, zeros_one, appS_some, appV_n, appV_v, appH_t, appH_f, Kd.isEx, ρ27, partV, CH.set_set, lkV, lkR, isKey, mupV, nxtV, ρ28, ρ29, hag, o7', o10']) | (with_reducible first | refine condK_dec (fun _ => ?_) fun _ => ?_ | refine grd_dec (fun _ => ?_) fun _ => ?_ | refine egrd_dec (fun _ => ?_) fun _ => ?_))
  refine hsm.mono ?_
  rintro v K9 ⟨hx9, rfl⟩
  have hn9 := hx9.nx
  have hx79 := hx8.trans hx9
  have o49 := (hx79.ob K3.nx (by omega)).trans o4
  have sa9 := sa7.mv (K' := K9) (A' := fun b => K2.nx ≤ b ∧ b < K3.nx) fun b hb => ⟨hb, hx79.ob b (by have := hb.2; omega)⟩
  have hnu := svrs_nu (R := fun b => K2.nx ≤ b ∧ b < K3.nx) (fun b hb => hb) _ _ (Nat.lt_succ_self _) ca sa9
  have k93 : ∀ b, K2.nx ≤ b → b < K3.nx → K9.ob b = K3.ob b := fun b hb hb' => by
    rw [hx79.ob b (by omega), k4 b (by omega) (by omega)]; exact (xA.trans hx4).ob b hb'
  repeat' (first | (simp (disch := first | omega | (decide +kernel) | (repeat first | assumption | exact HExt.refl _ | refine HExt.set ?_ (by first | omega | (simp only [new_nx, set_nx]; omega)) _ | refine HExt.new ?_ _)) only [↓RD, RU, accW_t, accW_f, isW, ↓putF_get, ↓putF_none, ↓evF_t, ↓evF_c, ↓evF_f, new_nx, set_nx, new_get, set_get, getD_zero, getD_succ, u_not, pop, lop, aop, wop, resL, resV, tupleV, akV, isVal, isCell, Value.cells, ρ0, ρ1, ρ2, ρ3, ρ4, ↓reduceIte, Nat.reduceEqDiff, Nat.reduceAdd, Int.reduceOfNat, Int.reduceNegSucc, reduceCtorEq, ρ5, ρ6, ρ7, ρ8, srcR_c, src_n, src_v, src_s, bnd, lenV, capV, ρ9, ρ10, ρ11, ρ12, ρ13, ρ14, ρ15, ρ16, ρ17, ρ18, ρ19, ρ20, ρ21, ρ22, ρ23, ρ24, Kd.isRo, ρ25, ρ26, bldV, Nat.reduceLeDiff, Int.reduceMul, Int.reduceAdd, Int.reduceSub, Int.reduceToNat, maxLen_eq, zeros_one, appS_some, appV_n, appV_v, appH_t, appH_f, Kd.isEx, ρ27, partV, CH.set_set, lkV, lkR, isKey, mupV, nxtV, ρ28, ρ29, hag, o49]) | (with_reducible first | refine condK_dec (fun _ => ?_) fun _ => ?_ | refine grd_dec (fun _ => ?_) fun _ => ?_ | refine egrd_dec (fun _ => ?_) fun _ => ?_))
  refine (marks_wp (-5) _ _ ca K9 hnu fun b hb => by have := hb.2; omega).mono ?_
  rintro v K10 hm
  have out : ∀ b, K3.nx ≤ b → b < K9.nx → K10.ob b = K9.ob b := fun b hb hb' => hm.out b (fun h => by have := h.2; omega) hb'
  have hn10 := hm.nx
  have o410 := (out K3.nx (Nat.le_refl _) (by omega)).trans o49
  repeat' (first | (simp (disch := first | omega | (decide +kernel) | (repeat first | assumption | exact HExt.refl _ | refine HExt.set ?_ (by first | omega | (simp only [new_nx, set_nx]; omega)) _ | refine HExt.new ?_ _)) only [↓RD, RU, accW_t, accW_f, isW, ↓putF_get, ↓putF_none, ↓evF_t, ↓evF_c, ↓evF_f, new_nx, set_nx, new_get, set_get, getD_zero, getD_succ, u_not, pop, lop, aop, wop, resL, resV, tupleV, akV, isVal, isCell, Value.cells, ρ0, ρ1, ρ2, ρ3, ρ4, ↓reduceIte, Nat.reduceEqDiff, Nat.reduceAdd, Int.reduceOfNat, Int.reduceNegSucc, reduceCtorEq, ρ5, ρ6, ρ7, ρ8, srcR_c, src_n, src_v, src_s, bnd, lenV, capV, ρ9, ρ10, ρ11, ρ12, ρ13, ρ14, ρ15, ρ16, ρ17, ρ18, ρ19, ρ20, ρ21, ρ22, ρ23, ρ24, Kd.isRo, ρ25, ρ26, bldV, Nat.reduceLeDiff, Int.reduceMul, Int.reduceAdd, Int.reduceSub, Int.reduceToNat, maxLen_eq, zeros_one, appS_some, appV_n, appV_v, appH_t, appH_f, Kd.isEx, ρ27, partV, CH.set_set, lkV, lkR, isKey, mupV, nxtV, ρ28, ρ29, hag, o410]) | (with_reducible first | refine condK_dec (fun _ => ?_) fun _ => ?_ | refine grd_dec (fun _ => ?_) fun _ => ?_ | refine egrd_dec (fun _ => ?_) fun _ => ?_))
  have hkids := parse_kd ts
  obtain ⟨hcn, hrow⟩ := nc_row sa9
  obtain ⟨hwn, _⟩ := nc_row sw7
  have hn3' : ca.n + 3 ≤ 2199023255552 := by
    have : 2 * (parseT ts).1.kids.length ≤ ts.length + 16 := by
      revert hkids
      generalize (parseT ts).1 = t
      intro hk
      cases t with | mk k l x o ks => exact hk.1
    omega
  have hv10 : (ca.a = none ∧ ca.n = 0 ∧ ca.c = 0) ∨ ∃ b cs kd, ca.a = some ⟨b, 0, none⟩ ∧ b < K3.nx ∧ K10.ob b = .cells cs 28 kd ∧ kd.isRo = false ∧ cs.length = ca.n * 5 := by
    rcases hrow with h | ⟨b, cs, e, kd, h1, h2, h3, h4, h5⟩
    · exact .inl h
    · obtain ⟨cs', e1, e2, _⟩ := hm.inn b cs e kd h2 h3
      obtain ⟨cs0, kd0, h0⟩ := hty (.int .i64 ca.k) (.int .i64 ca.l) (.string ca.x) (.int .i64 ca.o) b ca.n ca.c _ (by rw [← h1]; rfl)
      rw [← k93 b h2.1 h2.2, h3] at h0
      cases h0
      exact .inr ⟨b, cs', kd, h1, h2.2, e1, h4, e2.trans h5⟩
  refine app_3 (bd := K3.nx) ?_ (by rw [new_nx]; omega) hn3' (by rfl) fun a3 c3 K11 hn11 out11 => ?_
  · rcases hv10 with h | ⟨b, cs, kd, h1, h2, h3, h4, h5⟩
    · exact .inl h
    · exact .inr ⟨b, cs, kd, h1, h2, (new_ne (by omega)).trans h3, h4, h5⟩
  have hn11' : K10.nx + 1 ≤ K11.nx := hn11
  have o11 : ∀ b, K3.nx ≤ b → b < K7.nx → K11.ob b = K7.ob b := fun b hb hb' => by
    rw [out11 b hb (by rw [new_nx]; omega), new_ne (by omega), out b hb (by omega)]; exact hx79.ob b hb'
  have o711 := (o11 K4.nx (by omega) (by omega)).trans o7
  have o1011 := (o11 K5.nx (by omega) (by omega)).trans o10
  have sb11 := sb7.mv (K' := K11) (A' := fun b => K3.nx < b ∧ b < K4.nx) fun b hb => ⟨hb, o11 b (by have := hb.1; omega) (by have := hb.2; omega)⟩
  have sw11 := sw7.mv (K' := K11) (A' := fun b => K4.nx < b ∧ b < K5.nx) fun b hb => ⟨hb, o11 b (by have := hb.1; omega) (by have := hb.2; omega)⟩
  have hsm := same_wp true (fun b hb => by have := hb.2; omega) (fun b hb => by have := hb.2; omega) sb11 sw11
  rw [sameN_refl] at hsm
  repeat' (first | (simp (disch := first | omega | (decide +kernel) | (repeat first | assumption | exact HExt.refl _ | refine HExt.set ?_ (by first | omega | (simp only [new_nx, set_nx]; omega)) _ | refine HExt.new ?_ _)) only [↓RD, RU, accW_t, accW_f, isW, ↓putF_get, ↓putF_none, ↓evF_t, ↓evF_c, ↓evF_f, new_nx, set_nx, new_get, set_get, getD_zero, getD_succ, u_not, pop, lop, aop, wop, resL, resV, tupleV, akV, isVal, isCell, Value.cells, ρ0, ρ1, ρ2, ρ3, ρ4, ↓reduceIte, Nat.reduceEqDiff, Nat.reduceAdd, Int.reduceOfNat, Int.reduceNegSucc, reduceCtorEq, ρ5, ρ6, ρ7, ρ8, srcR_c, src_n, src_v, src_s, bnd, lenV, capV, ρ9, ρ10, ρ11, ρ12, ρ13, ρ14, ρ15, ρ16, ρ17, ρ18, ρ19, ρ20, ρ21, ρ22, ρ23, ρ24, Kd.isRo, ρ25, ρ26, bldV, Nat.reduceLeDiff, Int.reduceMul, Int.reduceAdd, Int.reduceSub, Int.reduceToNat, maxLen_eq, zeros_one, appS_some, appV_n, appV_v, appH_t, appH_f, Kd.isEx, ρ27, partV, CH.set_set, lkV, lkR, isKey, mupV, nxtV, ρ28, ρ29, hag, o711, o1011]) | (with_reducible first | refine condK_dec (fun _ => ?_) fun _ => ?_ | refine grd_dec (fun _ => ?_) fun _ => ?_ | refine egrd_dec (fun _ => ?_) fun _ => ?_))
  refine hsm.mono ?_
  rintro v K12 ⟨hx12, rfl⟩
  have o1012 := (hx12.ob K5.nx (by omega)).trans o1011
  have hww : cw.n = ca.n := hwn.trans hcn.symm
  repeat' (first | (simp (disch := first | omega | (decide +kernel) | (repeat first | assumption | exact HExt.refl _ | refine HExt.set ?_ (by first | omega | (simp only [new_nx, set_nx]; omega)) _ | refine HExt.new ?_ _)) only [↓RD, RU, accW_t, accW_f, isW, ↓putF_get, ↓putF_none, ↓evF_t, ↓evF_c, ↓evF_f, new_nx, set_nx, new_get, set_get, getD_zero, getD_succ, u_not, pop, lop, aop, wop, resL, resV, tupleV, akV, isVal, isCell, Value.cells, ρ0, ρ1, ρ2, ρ3, ρ4, ↓reduceIte, Nat.reduceEqDiff, Nat.reduceAdd, Int.reduceOfNat, Int.reduceNegSucc, reduceCtorEq, ρ5, ρ6, ρ7, ρ8, srcR_c, src_n, src_v, src_s, bnd, lenV, capV, ρ9, ρ10, ρ11, ρ12, ρ13, ρ14, ρ15, ρ16, ρ17, ρ18, ρ19, ρ20, ρ21, ρ22, ρ23, ρ24, Kd.isRo, ρ25, ρ26, bldV, Nat.reduceLeDiff, Int.reduceMul, Int.reduceAdd, Int.reduceSub, Int.reduceToNat, maxLen_eq, zeros_one, appS_some, appV_n, appV_v, appH_t, appH_f, Kd.isEx, ρ27, partV, CH.set_set, lkV, lkR, isKey, mupV, nxtV, ρ28, ρ29, hag, o1012, hww]) | (with_reducible first | refine condK_dec (fun _ => ?_) fun _ => ?_ | refine grd_dec (fun _ => ?_) fun _ => ?_ | refine egrd_dec (fun _ => ?_) fun _ => ?_))
end Can
end Go.Proofs.Ytnkfdkfmdeibfaa
end
section
namespace Go.Proofs.Ytnkfdkfmdeibfaa
namespace Can
open Go Go.RowKit
set_option linter.unusedSimpArgs false
set_option linter.unusedVariables false
variable {H : Type} {enc : TypeId × Value → H} {w : World} {base : Nat} {spare : Nat → Bool} {held : Bool}
theorem co_tok : CO Rows.uptoBulk enc Try.prog w base spare held 25 3 CTk (fun _ => True) (fun _ => 1) := by
  refine (co_struct bulk_ok Try.underlying25 (by kernel_rfl) (co_cons rfl (by kernel_rfl) (co_int bulk_ok Try.underlying3) (co_cons rfl (by kernel_rfl) (co_int bulk_ok Try.underlying3) (co_cons rfl (by kernel_rfl) (co_string bulk_ok Try.underlying9) co_nil)))).map
    (fun x => (⟨x.1, x.2.1, x.2.2.1.data.toList⟩ : PT)) ?_ (fun _ _ => trivial) ?_
  · rintro K cs x ⟨⟨a0, b0⟩, ⟨a1, b1⟩, ⟨a2, b2⟩, a8⟩
    show cs = _
    rw [split1 a0, split1 a1, split1 a2]
    have a8' : (List.drop 1 (List.drop 1 (List.drop 1 cs))) = [] := a8
    rw [a8']
    rfl
  · intro x; omega
theorem tok_reach {n : Nat} (h : n * Try.prog.bytesOf 25 ≤ reachBytes) : n ≤ 4398046510976 := by
  have e : Try.prog.bytesOf 25 = 32 := by kernel_rfl
  have e2 : reachBytes = 140737488351232 := rfl
  rw [e, e2] at h
  omega
end Can
end Go.Proofs.Ytnkfdkfmdeibfaa
end
