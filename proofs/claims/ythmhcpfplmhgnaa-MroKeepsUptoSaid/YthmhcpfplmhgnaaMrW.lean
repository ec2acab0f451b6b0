/- Mro: MroKeeps walked. -/
import Derived.Test.YthmhcpfplmhgnaaMrL
namespace Go.Proofs.Ythmhcpfplmhgnaa
namespace Can
open Go Go.RowKit
set_option linter.unusedSimpArgs false
set_option linter.unusedVariables false
set_option maxRecDepth 4000
def PW (K : CH) (u : Option Addr × Nat × Nat) (row : List Int) : Prop := IL K (.slice u.1 u.2.1 u.2.2) row ∧ ∀ x o, u.1 = some ⟨x, o, none⟩ → ∃ os k, K.ob x = .cells os 3 k ∧ x < K.nx
theorem PW.mv {K K' : CH} {u : Option Addr × Nat × Nat} {row : List Int} (h : PW K u row) (hn : K.nx ≤ K'.nx) (hk : ∀ l os k, l < K.nx → K.ob l = .cells os 3 k → K'.ob l = K.ob l) : PW K' u row := by
  obtain ⟨h1, h2⟩ := h
  refine ⟨h1.mv hn fun x o n c e => ?_, fun x o e => ?_⟩
  · obtain ⟨os, k, g1, g2⟩ := h2 x o (Value.slice.inj e).1
    exact hk x os k g2 g1
  · obtain ⟨os, k, g1, g2⟩ := h2 x o e
    exact ⟨os, k, (hk x os k g2 g1).trans g1, Nat.lt_of_lt_of_le g2 hn⟩
def KpJ (A : CH) (bs : List (List Int)) (n : Nat) (v5 v6 v7 : Value) (K : CH) : Prop := ∃ i : Nat, n = bs.length - i ∧ i ≤ bs.length ∧ v7 = .int .i64 (i : Nat) ∧ RwL (InR A) A K v5 (bs.take i) ∧ RwL PW A K v6 (bs.take i) ∧ HExt A K ∧ (∀ b o n c b' o' n' c', v5 = .slice (some ⟨b, o, none⟩) n c → v6 = .slice (some ⟨b', o', none⟩) n' c' → b ≠ b')
theorem ordV_grw {A K : CH} {v : Value} {bs : List (List Int)} {c : Int} (h : OrdV A K v (ordA bs c)) : ∃ v1, v = .tuple #[v1, .int .i64 (match ordA bs c with | .error e => (e : Int) | .ok _ => 0)] ∧ Grw A 3 1 (ints .i64) K v1 (match ordA bs c with | .error _ => [] | .ok l => l) := by
  cases hR : ordA bs c with
  | error e => rw [hR] at h; exact ⟨_, h, .inl ⟨rfl, rfl⟩⟩
  | ok l =>
    rw [hR] at h
    obtain ⟨b, kd, rfl, h1, h2, h3, h4, _⟩ := h
    exact ⟨_, rfl, .inr ⟨b, kd, rfl, h1, h2, by rw [flat_ints]; exact h3, h4⟩⟩
theorem grw_len {A K : CH} {v : Value} {xs : List Int} (h : Grw A 3 1 (ints .i64) K v xs) : ∃ q, v = .slice q xs.length xs.length := by
  rcases h with ⟨rfl, rfl⟩ | ⟨b, kd, rfl, _⟩
  · exact ⟨_, rfl⟩
  · exact ⟨_, rfl⟩
def WrJ (K K2 : CH) (L : List Int) (v1 v2 : Value) (n : Nat) (v12 : Value) (K' : CH) : Prop := ∃ j : Nat, n = L.length - j ∧ j ≤ L.length ∧ v12 = .int .i64 (j : Nat) ∧ Grw K 3 1 (ints .i64) K' v1 (List.replicate j (-3) ++ L.drop j) ∧ Grw K2 3 1 (ints .i64) K' v2 L ∧ HExt K K'
set_option maxHeartbeats 4000000 in
theorem keep_wp {A : CH} {vb : Value} {bs : List (List Int)} {c : Int} (hbs : BsAt A vb bs) (hlen : bs.length ≤ 1048576) (hrow : ∀ l ∈ bs, l.length ≤ 1048576) :
    WpF (tblG Try.prog LG GG) 5 [vb, .int .i64 c] A fun v _ => v = .bool true := by
  obtain ⟨q0, c0, hvb, hc0, hm0⟩ := hbs.len
  rw [maxLen_eq] at hm0
  refine wpF_rG (by rfl) (by kernel_rfl) ?_; (conv in (rF _ _).body => reduce); (conv in (rF _ _).res => reduce)
  repeat' (first | (simp (disch := first | omega | (decide +kernel) | (repeat first | assumption | exact HExt.refl _ | refine HExt.set ?_ (by first | omega | (simp only [new_nx, set_nx]; omega)) _ | refine HExt.new ?_ _)) only [↓RD, RU, accW_t, accW_f, isW, ↓putF_get, ↓putF_none, ↓evF_t, ↓evF_c, ↓evF_f, new_nx, set_nx, new_get, set_get, getD_zero, getD_succ, u_not, pop, lop, aop, wop, resL, resV, tupleV, akV, isVal, isCell, Value.cells, ρ0, ρ1, ρ2, ρ3, ρ4, ↓reduceIte, Nat.reduceEqDiff, Nat.reduceAdd, Int.reduceOfNat, Int.reduceNegSucc, reduceCtorEq, ρ5, ρ6, ρ7, ρ8, srcR_c, src_n, src_v, src_s, bnd, lenV, capV, ρ9, ρ10, ρ11, ρ12, ρ13, ρ14, ρ15, ρ16, ρ17, ρ18, ρ19, ρ20, ρ21, ρ22, ρ23, ρ24, Kd.isRo, ρ25, ρ26, bldV, Nat.reduceLeDiff, Int.reduceMul, Int.reduceAdd, Int.reduceSub, Int.reduceToNat, maxLen_eq, zeros_one, appS_some, appV_n, appV_v, appH_t, appH_f, Kd.isEx, ρ27, partV, CH.set_set, lkV, lkR, isKey, mupV, nxtV, ρ28, ρ29, knownG_iff, hvb]) | (with_reducible first | refine condK_dec (fun _ => ?_) fun _ => ?_ | refine grd_dec (fun _ => ?_) fun _ => ?_ | refine egrd_dec (fun _ => ?_) fun _ => ?_))
  refine loop_w (fun n fr K => KpJ A bs n (fr 5) (fr 6) (fr 7) K) (n := bs.length) ⟨0, rfl, Nat.zero_le _, by (repeat' (first | (simp (disch := first | omega | (decide +kernel) | (repeat first | assumption | exact HExt.refl _ | refine HExt.set ?_ (by first | omega | (simp only [new_nx, set_nx]; omega)) _ | refine HExt.new ?_ _)) only [↓RD, RU, accW_t, accW_f, isW, ↓putF_get, ↓putF_none, ↓evF_t, ↓evF_c, ↓evF_f, new_nx, set_nx, new_get, set_get, getD_zero, getD_succ, u_not, pop, lop, aop, wop, resL, resV, tupleV, akV, isVal, isCell, Value.cells, ρ0, ρ1, ρ2, ρ3, ρ4, ↓reduceIte, Nat.reduceEqDiff, Nat.reduceAdd, Int.reduceOfNat, Int.reduceNegSucc, reduceCtorEq, ρ5, ρ6, ρ7, ρ8, srcR_c, src_n, src_v, src_s, bnd, lenV, capV, ρ9, ρ10, ρ11, ρ12, ρ13, ρ14, ρ15, ρ16, ρ17, ρ18, ρ19, ρ20, ρ21, ρ22, ρ23, ρ24, Kd.isRo, ρ25, ρ26, bldV, Nat.reduceLeDiff, Int.reduceMul, Int.reduceAdd, Int.reduceSub, Int.reduceToNat, maxLen_eq, zeros_one, appS_some, appV_n, appV_v, appH_t, appH_f, Kd.isEx, ρ27, partV, CH.set_set, lkV, lkR, isKey, mupV, nxtV, ρ28, ρ29]) | (with_reducible first | refine condK_dec (fun _ => ?_) fun _ => ?_ | refine grd_dec (fun _ => ?_) fun _ => ?_ | refine egrd_dec (fun _ => ?_) fun _ => ?_)); all_goals rfl), ⟨[], .inl ⟨rfl, by (repeat' (first | (simp (disch := first | omega | (decide +kernel) | (repeat first | assumption | exact HExt.refl _ | refine HExt.set ?_ (by first | omega | (simp only [new_nx, set_nx]; omega)) _ | refine HExt.new ?_ _)) only [↓RD, RU, accW_t, accW_f, isW, ↓putF_get, ↓putF_none, ↓evF_t, ↓evF_c, ↓evF_f, new_nx, set_nx, new_get, set_get, getD_zero, getD_succ, u_not, pop, lop, aop, wop, resL, resV, tupleV, akV, isVal, isCell, Value.cells, ρ0, ρ1, ρ2, ρ3, ρ4, ↓reduceIte, Nat.reduceEqDiff, Nat.reduceAdd, Int.reduceOfNat, Int.reduceNegSucc, reduceCtorEq, ρ5, ρ6, ρ7, ρ8, srcR_c, src_n, src_v, src_s, bnd, lenV, capV, ρ9, ρ10, ρ11, ρ12, ρ13, ρ14, ρ15, ρ16, ρ17, ρ18, ρ19, ρ20, ρ21, ρ22, ρ23, ρ24, Kd.isRo, ρ25, ρ26, bldV, Nat.reduceLeDiff, Int.reduceMul, Int.reduceAdd, Int.reduceSub, Int.reduceToNat, maxLen_eq, zeros_one, appS_some, appV_n, appV_v, appH_t, appH_f, Kd.isEx, ρ27, partV, CH.set_set, lkV, lkR, isKey, mupV, nxtV, ρ28, ρ29]) | (with_reducible first | refine condK_dec (fun _ => ?_) fun _ => ?_ | refine grd_dec (fun _ => ?_) fun _ => ?_ | refine egrd_dec (fun _ => ?_) fun _ => ?_)); all_goals rfl)⟩, rfl, fun i u l h => by simp at h⟩, ⟨[], .inl ⟨rfl, by (repeat' (first | (simp (disch := first | omega | (decide +kernel) | (repeat first | assumption | exact HExt.refl _ | refine HExt.set ?_ (by first | omega | (simp only [new_nx, set_nx]; omega)) _ | refine HExt.new ?_ _)) only [↓RD, RU, accW_t, accW_f, isW, ↓putF_get, ↓putF_none, ↓evF_t, ↓evF_c, ↓evF_f, new_nx, set_nx, new_get, set_get, getD_zero, getD_succ, u_not, pop, lop, aop, wop, resL, resV, tupleV, akV, isVal, isCell, Value.cells, ρ0, ρ1, ρ2, ρ3, ρ4, ↓reduceIte, Nat.reduceEqDiff, Nat.reduceAdd, Int.reduceOfNat, Int.reduceNegSucc, reduceCtorEq, ρ5, ρ6, ρ7, ρ8, srcR_c, src_n, src_v, src_s, bnd, lenV, capV, ρ9, ρ10, ρ11, ρ12, ρ13, ρ14, ρ15, ρ16, ρ17, ρ18, ρ19, ρ20, ρ21, ρ22, ρ23, ρ24, Kd.isRo, ρ25, ρ26, bldV, Nat.reduceLeDiff, Int.reduceMul, Int.reduceAdd, Int.reduceSub, Int.reduceToNat, maxLen_eq, zeros_one, appS_some, appV_n, appV_v, appH_t, appH_f, Kd.isEx, ρ27, partV, CH.set_set, lkV, lkR, isKey, mupV, nxtV, ρ28, ρ29]) | (with_reducible first | refine condK_dec (fun _ => ?_) fun _ => ?_ | refine grd_dec (fun _ => ?_) fun _ => ?_ | refine egrd_dec (fun _ => ?_) fun _ => ?_)); all_goals rfl)⟩, rfl, fun i u l h => by simp at h⟩, HExt.refl _, fun b o n c b' o' n' c' e _ => by revert e; repeat' (first | (simp (disch := first | omega | (decide +kernel) | (repeat first | assumption | exact HExt.refl _ | refine HExt.set ?_ (by first | omega | (simp only [new_nx, set_nx]; omega)) _ | refine HExt.new ?_ _)) only [↓RD, RU, accW_t, accW_f, isW, ↓putF_get, ↓putF_none, ↓evF_t, ↓evF_c, ↓evF_f, new_nx, set_nx, new_get, set_get, getD_zero, getD_succ, u_not, pop, lop, aop, wop, resL, resV, tupleV, akV, isVal, isCell, Value.cells, ρ0, ρ1, ρ2, ρ3, ρ4, ↓reduceIte, Nat.reduceEqDiff, Nat.reduceAdd, Int.reduceOfNat, Int.reduceNegSucc, reduceCtorEq, ρ5, ρ6, ρ7, ρ8, srcR_c, src_n, src_v, src_s, bnd, lenV, capV, ρ9, ρ10, ρ11, ρ12, ρ13, ρ14, ρ15, ρ16, ρ17, ρ18, ρ19, ρ20, ρ21, ρ22, ρ23, ρ24, Kd.isRo, ρ25, ρ26, bldV, Nat.reduceLeDiff, Int.reduceMul, Int.reduceAdd, Int.reduceSub, Int.reduceToNat, maxLen_eq, zeros_one, appS_some, appV_n, appV_v, appH_t, appH_f, Kd.isEx, ρ27, partV, CH.set_set, lkV, lkR, isKey, mupV, nxtV, ρ28, ρ29]) | (with_reducible first | refine condK_dec (fun _ => ?_) fun _ => ?_ | refine grd_dec (fun _ => ?_) fun _ => ?_ | refine egrd_dec (fun _ => ?_) fun _ => ?_)); all_goals exact fun e => by cases e⟩ ?_
  rintro m fr K ⟨i, rfl, hi, f7, hIn, hWas, hx, hne⟩ hag
  obtain ⟨v5, f5⟩ : ∃ v, fr 5 = v := ⟨_, rfl⟩
  obtain ⟨v6, f6⟩ : ∃ v, fr 6 = v := ⟨_, rfl⟩
  rw [f5] at hIn hne
  rw [f6] at hWas hne
  by_cases hil : i < bs.length
  · obtain ⟨l0, o0, c1, os0, e0, kd0, u0, hv2, q1, g2, g3, q4, g5, g6, q7⟩ := hbs.get hil
    rw [hvb] at hv2
    obtain ⟨rfl, rfl⟩ : q0 = some ⟨l0, o0, none⟩ ∧ c0 = c1 := by cases hv2; exact ⟨rfl, rfl⟩
    obtain ⟨row, hr⟩ : ∃ row, bs[i] = row := ⟨_, rfl⟩
    rw [hr] at q7
    have hrl : row.length ≤ 1048576 := hrow row (by rw [← hr]; exact List.getElem_mem hil)
    have htk : bs.take (i + 1) = bs.take i ++ [row] := by rw [List.take_add_one, List.getElem?_eq_getElem hil, hr]; rfl
    obtain ⟨qu, cu, hu0, hcu, hmu, _⟩ := q7.len
    have hat : ∀ K' : CH, HExt A K' → K'.ob l0 = .cells os0 e0 kd0 ∧ l0 < K'.nx := fun K' h => ⟨(h.ob l0 q1).trans q4, Nat.lt_of_lt_of_le q1 h.nx⟩
    have g7 := q7.ext hx
    obtain ⟨l1, c1', cs, kd, K2, ha1, ha2, ha3, ha4, ha5, ha6, ha7, ha8⟩ := room1 g7 hrl
    rw [hu0] at ha1 g6
    obtain ⟨g4, g1⟩ := hat K hx
    obtain ⟨p2, hn0⟩ := hat K2 (hx.trans ha8)
    repeat' (first | (simp (disch := first | omega | (decide +kernel) | (repeat first | assumption | exact HExt.refl _ | refine HExt.set ?_ (by first | omega | (simp only [new_nx, set_nx]; omega)) _ | refine HExt.new ?_ _)) only [↓r_seq, ↓r_block, ↓seqK_n, ↓seqK_r, ↓seqK_e, ↓blockK_n, ↓blockK_r, ↓blockK_e, ↓loopI_n, ↓loopI_r, ↓loopI_e, ↓funK_n, ↓funK_r, ↓r_reg, ↓r_drw, ↓r_cond, ↓condK_t, ↓condK_f, ↓i_cons, ↓eitemK, ↓e_nil, ↓e_cons, ↓e_grd, ↓egrd_tt, ↓egrd_ff, ↓egrd_tf, ↓egrd_ft, ↓egrd_s, ↓drwK, ↓r_drw2, ↓chk_nil, ↓chk_n, ↓chk_g, agL, agV_tt, agV_ff, agV_tf, agV_ft, agV_s, agE, accW_t, accW_f, isW, ↓i_grd, ↓grd_tt, ↓grd_ff, ↓grd_tf, ↓grd_ft, ↓grd_s, ↓itemK, ↓o_p, ↓o_l, ↓o_a, ↓o_w, ↓o_call, ↓o_callv, ↓callvK_f, ↓callvK_y, ↓r_range, ↓rangeV_f, ↓putF_get, ↓putF_none, ↓evF_t, ↓evF_c, ↓evF_f, new_nx, set_nx, new_get, set_get, optV_some, optW_some, optA_some, finK_some, ↓wpI_nil, ↓wpR_skip, ↓wpR_exit, ↓wpR_ret, getD_zero, getD_succ, b_add, b_sub, b_mul, b_quo, b_rem, b_eql, b_neq, b_lss, b_leq, b_gtr, b_geq, u_not, w_i64, w_u64, w_u8, t_div, t_mod, pop, lop, aop, wop, resL, resV, tupleV, akV, isVal, isCell, Value.cells, List.map_cons, List.map_nil, Bool.not_true, Bool.not_false, Option.map_some, ↓reduceIte, Nat.reduceEqDiff, Nat.reduceAdd, Int.reduceOfNat, Int.reduceNegSucc, decide_true, decide_false, reduceCtorEq, List.getElem?_cons_zero, List.getElem?_cons_succ, List.length_cons, List.length_nil, setc_0, setc_s, srcR_c, src_n, src_v, src_r, src_s, bnd, lenV, capV, Option.isSome_none, Option.isNone_none, Option.isSome_some, Option.isNone_some, Bool.or_false, Bool.or_true, Bool.true_or, Bool.false_or, List.take_succ_cons, List.take_zero, List.drop_succ_cons, List.drop_zero, List.cons_append, List.nil_append, List.append_nil, List.take_nil, List.drop_nil, List.all_cons, List.all_nil, Bool.and_true, Bool.true_and, Kd.isRo, List.size_toArray, List.getElem?_toArray, List.toList_toArray, bldV, Nat.reduceLeDiff, Nat.le_refl, u_neg, b_or0, Int.reduceMul, Int.reduceAdd, Int.reduceSub, Int.zero_mul, Int.zero_add, Int.add_zero, b_and3, b_and8, b_and24, b_shr2, b_shrs2, b_shr8, b_shr32, b_shr56, b_shl2, b_shl8, b_shl32, toNat_add1, toNat_add2, toNat_addn, toNat_add2n, Int.reduceToNat, maxLen_eq, zeros_one, zeros_two, zeros_three, take_mapl, List.length_map, List.map_append, List.length_append, beq_self_eq_true, beq_true, beq_false, Bool.false_xor, Bool.true_xor, Bool.xor_false, Bool.xor_true, dec_t, dec_f, ↓w_app, appS_some, appV_v, appH_t, appH_f, Kd.isEx, Bool.false_and, partV, if_pos, if_neg, Nat.mul_one, Nat.one_mul, Nat.zero_add, Nat.add_zero, Int.toNat_natCast, true_and, and_true, hag, f7, f5, f6, g4, g6, ha1]) | (with_reducible first | refine condK_dec (fun _ => ?_) fun _ => ?_ | refine grd_dec (fun _ => ?_) fun _ => ?_ | refine egrd_dec (fun _ => ?_) fun _ => ?_))
    have hn2 : ¬ l1 = K2.nx := by omega
    obtain ⟨R, K4, hb1, hb2, hb3, hb4, hb5⟩ := room2 (H := K) (K3 := K2.new (.cells [.int .i64 (-7), .int .i64 (-7)] 3 .ex)) (xs := row) hrl (c1 := c1') (by rw [new_get, if_neg hn2]; exact ha2) ha3 ha4 ha5 ha6 (ha8.new _)
    obtain ⟨p4, hn4⟩ := hat K4 (hx.trans hb5)
    have hok4 := okSl_of (e := 3) (o := 0) (n := row.length + 2) (c := row.length + 2) hb2
    have hsl := @room_slc R row.length row.length (row.length + 2) (by omega)
    repeat' (first | (simp (disch := first | omega | (decide +kernel) | (repeat first | assumption | exact HExt.refl _ | refine HExt.set ?_ (by first | omega | (simp only [new_nx, set_nx]; omega)) _ | refine HExt.new ?_ _)) only [↓r_seq, ↓r_block, ↓seqK_n, ↓seqK_r, ↓seqK_e, ↓blockK_n, ↓blockK_r, ↓blockK_e, ↓loopI_n, ↓loopI_r, ↓loopI_e, ↓funK_n, ↓funK_r, ↓r_reg, ↓r_drw, ↓r_cond, ↓condK_t, ↓condK_f, ↓i_cons, ↓eitemK, ↓e_nil, ↓e_cons, ↓e_grd, ↓egrd_tt, ↓egrd_ff, ↓egrd_tf, ↓egrd_ft, ↓egrd_s, ↓drwK, ↓r_drw2, ↓chk_nil, ↓chk_n, ↓chk_g, agL, agV_tt, agV_ff, agV_tf, agV_ft, agV_s, agE, accW_t, accW_f, isW, ↓i_grd, ↓grd_tt, ↓grd_ff, ↓grd_tf, ↓grd_ft, ↓grd_s, ↓itemK, ↓o_p, ↓o_l, ↓o_a, ↓o_w, ↓o_call, ↓o_callv, ↓callvK_f, ↓callvK_y, ↓r_range, ↓rangeV_f, ↓putF_get, ↓putF_none, ↓evF_t, ↓evF_c, ↓evF_f, new_nx, set_nx, new_get, set_get, optV_some, optW_some, optA_some, finK_some, ↓wpI_nil, ↓wpR_skip, ↓wpR_exit, ↓wpR_ret, getD_zero, getD_succ, b_add, b_sub, b_mul, b_quo, b_rem, b_eql, b_neq, b_lss, b_leq, b_gtr, b_geq, u_not, w_i64, w_u64, w_u8, t_div, t_mod, pop, lop, aop, wop, resL, resV, tupleV, akV, isVal, isCell, Value.cells, List.map_cons, List.map_nil, Bool.not_true, Bool.not_false, Option.map_some, ↓reduceIte, Nat.reduceEqDiff, Nat.reduceAdd, Int.reduceOfNat, Int.reduceNegSucc, decide_true, decide_false, reduceCtorEq, List.getElem?_cons_zero, List.getElem?_cons_succ, List.length_cons, List.length_nil, setc_0, setc_s, srcR_c, src_n, src_v, src_r, src_s, bnd, lenV, capV, Option.isSome_none, Option.isNone_none, Option.isSome_some, Option.isNone_some, Bool.or_false, Bool.or_true, Bool.true_or, Bool.false_or, List.take_succ_cons, List.take_zero, List.drop_succ_cons, List.drop_zero, List.cons_append, List.nil_append, List.append_nil, List.take_nil, List.drop_nil, List.all_cons, List.all_nil, Bool.and_true, Bool.true_and, Kd.isRo, List.size_toArray, List.getElem?_toArray, List.toList_toArray, bldV, Nat.reduceLeDiff, Nat.le_refl, u_neg, b_or0, Int.reduceMul, Int.reduceAdd, Int.reduceSub, Int.zero_mul, Int.zero_add, Int.add_zero, b_and3, b_and8, b_and24, b_shr2, b_shrs2, b_shr8, b_shr32, b_shr56, b_shl2, b_shl8, b_shl32, toNat_add1, toNat_add2, toNat_addn, toNat_add2n, Int.reduceToNat, maxLen_eq, zeros_one, zeros_two, zeros_three, take_mapl, List.length_map, List.map_append, List.length_append, beq_self_eq_true, beq_true, beq_false, Bool.false_xor, Bool.true_xor, Bool.xor_false, Bool.xor_true, dec_t, dec_f, ↓w_app, appS_some, appV_v, appH_t, appH_f, Kd.isEx, Bool.false_and, partV, if_pos, if_neg, Nat.mul_one, Nat.one_mul, Nat.zero_add, Nat.add_zero, Int.toNat_natCast, true_and, and_true, hag, f7, f5, f6, p4, g6, hb1, hok4, hsl]) | (with_reducible first | refine condK_dec (fun _ => ?_) fun _ => ?_ | refine grd_dec (fun _ => ?_) fun _ => ?_ | refine egrd_dec (fun _ => ?_) fun _ => ?_))
    obtain ⟨KA, hKA⟩ : ∃ KA, K4.new (.cells [.slice (some ⟨R, 0, none⟩) row.length (row.length + 2)] 24 .ex) = KA := ⟨_, rfl⟩
    have hxA : HExt K KA := by rw [← hKA]; exact hb5.new _
    have hx4A : HExt K4 KA := by rw [← hKA]; exact (HExt.refl K4).new _
    rw [hKA]
    have hInA : RwL (InR A) A KA v5 (bs.take i) := hIn.mv hxA.nx (fun u l h => h.mv hxA.nx fun l os k h1 h2 => hxA.ob l h1) fun b n c _ h => hxA.ob b h
    have hWasA : RwL PW A KA v6 (bs.take i) := hWas.mv hxA.nx (fun u l h => h.mv hxA.nx fun l os k h1 h2 => hxA.ob l h1) fun b n c _ h => hxA.ob b h
    have htl : (bs.take i).length = i := by simp; omega
    refine hInA.push (hx.trans hxA) (by omega) (fun K' h1 h2 u l h => h.mv h1 h2) ⟨R, .gr, rfl, Nat.le_trans hx.nx hb3, Nat.lt_of_lt_of_le hb4 hx4A.nx, (hx4A.ob R hb4).trans hb2, rfl⟩ fun m5 Kp hInP hxP hnP hcP hoP => ?_
    obtain ⟨pp, hn0p⟩ := hat Kp hxP
    have hWasP : RwL PW A Kp v6 (bs.take i) := hWasA.mv (Nat.le_of_lt hnP) (fun u l h => h.mv (Nat.le_of_lt hnP) hcP) fun b n c e h => hoP b h fun o' n' c' e' => hne _ _ _ _ _ _ _ _ e' e rfl
    repeat' (first | (simp (disch := first | omega | (decide +kernel) | (repeat first | assumption | exact HExt.refl _ | refine HExt.set ?_ (by first | omega | (simp only [new_nx, set_nx]; omega)) _ | refine HExt.new ?_ _)) only [↓r_seq, ↓r_block, ↓seqK_n, ↓seqK_r, ↓seqK_e, ↓blockK_n, ↓blockK_r, ↓blockK_e, ↓loopI_n, ↓loopI_r, ↓loopI_e, ↓funK_n, ↓funK_r, ↓r_reg, ↓r_drw, ↓r_cond, ↓condK_t, ↓condK_f, ↓i_cons, ↓eitemK, ↓e_nil, ↓e_cons, ↓e_grd, ↓egrd_tt, ↓egrd_ff, ↓egrd_tf, ↓egrd_ft, ↓egrd_s, ↓drwK, ↓r_drw2, ↓chk_nil, ↓chk_n, ↓chk_g, agL, agV_tt, agV_ff, agV_tf, agV_ft, agV_s, agE, accW_t, accW_f, isW, ↓i_grd, ↓grd_tt, ↓grd_ff, ↓grd_tf, ↓grd_ft, ↓grd_s, ↓itemK, ↓o_p, ↓o_l, ↓o_a, ↓o_w, ↓o_call, ↓o_callv, ↓callvK_f, ↓callvK_y, ↓r_range, ↓rangeV_f, ↓putF_get, ↓putF_none, ↓evF_t, ↓evF_c, ↓evF_f, new_nx, set_nx, new_get, set_get, optV_some, optW_some, optA_some, finK_some, ↓wpI_nil, ↓wpR_skip, ↓wpR_exit, ↓wpR_ret, getD_zero, getD_succ, b_add, b_sub, b_mul, b_quo, b_rem, b_eql, b_neq, b_lss, b_leq, b_gtr, b_geq, u_not, w_i64, w_u64, w_u8, t_div, t_mod, pop, lop, aop, wop, resL, resV, tupleV, akV, isVal, isCell, Value.cells, List.map_cons, List.map_nil, Bool.not_true, Bool.not_false, Option.map_some, ↓reduceIte, Nat.reduceEqDiff, Nat.reduceAdd, Int.reduceOfNat, Int.reduceNegSucc, decide_true, decide_false, reduceCtorEq, List.getElem?_cons_zero, List.getElem?_cons_succ, List.length_cons, List.length_nil, setc_0, setc_s, srcR_c, src_n, src_v, src_r, src_s, bnd, lenV, capV, Option.isSome_none, Option.isNone_none, Option.isSome_some, Option.isNone_some, Bool.or_false, Bool.or_true, Bool.true_or, Bool.false_or, List.take_succ_cons, List.take_zero, List.drop_succ_cons, List.drop_zero, List.cons_append, List.nil_append, List.append_nil, List.take_nil, List.drop_nil, List.all_cons, List.all_nil, Bool.and_true, Bool.true_and, Kd.isRo, List.size_toArray, List.getElem?_toArray, List.toList_toArray, bldV, Nat.reduceLeDiff, Nat.le_refl, u_neg, b_or0, Int.reduceMul, Int.reduceAdd, Int.reduceSub, Int.zero_mul, Int.zero_add, Int.add_zero, b_and3, b_and8, b_and24, b_shr2, b_shrs2, b_shr8, b_shr32, b_shr56, b_shl2, b_shl8, b_shl32, toNat_add1, toNat_add2, toNat_addn, toNat_add2n, Int.reduceToNat, maxLen_eq, zeros_one, zeros_two, zeros_three, take_mapl, List.length_map, List.map_append, List.length_append, beq_self_eq_true, beq_true, beq_false, Bool.false_xor, Bool.true_xor, Bool.xor_false, Bool.xor_true, dec_t, dec_f, ↓w_app, appS_some, appV_v, appH_t, appH_f, Kd.isEx, Bool.false_and, partV, if_pos, if_neg, Nat.mul_one, Nat.one_mul, Nat.zero_add, Nat.add_zero, Int.toNat_natCast, true_and, and_true, hag, f7, f5, f6, g4, p2, p4, pp, g6]) | (with_reducible first | refine condK_dec (fun _ => ?_) fun _ => ?_ | refine grd_dec (fun _ => ?_) fun _ => ?_ | refine egrd_dec (fun _ => ?_) fun _ => ?_))
    obtain ⟨KB, hKB⟩ : ∃ KB, Kp.new (.cells (zeros [.int .i64 0] 0) 3 .ex) = KB := ⟨_, rfl⟩
    have hxB : HExt Kp KB := by rw [← hKB]; exact (HExt.refl Kp).new _
    have hsB := il_src (q7.ext (hxP.trans hxB))
    rw [hu0] at hsB
    rw [hKB, hsB, appS_some]
    refine optW_app (A := Kp) (xs := ([] : List Int)) (ys := row) (ints_ok .i64) (.inr ⟨Kp.nx, .ex, rfl, Nat.le_refl _, by rw [← hKB]; exact Nat.lt_succ_self _, by rw [← hKB]; exact new_get.trans (if_pos rfl), rfl⟩) hxB (by simp only [List.length_nil]; omega) (by simp only [List.length_nil]; omega) (by rw [flat_ints]; rfl) rfl fun v8 K8 j1 j2 j3 j4 => ?_
    rw [List.nil_append] at j1
    have hPW8 : ∃ a8 n8 c8, v8 = .slice a8 n8 c8 ∧ PW K8 (a8, n8, c8) row := by
      have hil8 := grw_il (by omega) q7.wf j1
      rcases j1 with ⟨e, rfl⟩ | ⟨b8, kd8, rfl, _, w2, w3, _⟩
      · exact ⟨_, _, _, rfl, hil8, fun x o e => by cases e⟩
      · exact ⟨_, _, _, rfl, hil8, fun x o e => by cases e; exact ⟨_, _, w3, w2⟩⟩
    obtain ⟨a8, n8, c8, rfl, hPW⟩ := hPW8
    repeat' (first | (simp (disch := first | omega | (decide +kernel) | (repeat first | assumption | exact HExt.refl _ | refine HExt.set ?_ (by first | omega | (simp only [new_nx, set_nx]; omega)) _ | refine HExt.new ?_ _)) only [↓r_seq, ↓r_block, ↓seqK_n, ↓seqK_r, ↓seqK_e, ↓blockK_n, ↓blockK_r, ↓blockK_e, ↓loopI_n, ↓loopI_r, ↓loopI_e, ↓funK_n, ↓funK_r, ↓r_reg, ↓r_drw, ↓r_cond, ↓condK_t, ↓condK_f, ↓i_cons, ↓eitemK, ↓e_nil, ↓e_cons, ↓e_grd, ↓egrd_tt, ↓egrd_ff, ↓egrd_tf, ↓egrd_ft, ↓egrd_s, ↓drwK, ↓r_drw2, ↓chk_nil, ↓chk_n, ↓chk_g, agL, agV_tt, agV_ff, agV_tf, agV_ft, agV_s, agE, accW_t, accW_f, isW, ↓i_grd, ↓grd_tt, ↓grd_ff, ↓grd_tf, ↓grd_ft, ↓grd_s, ↓itemK, ↓o_p, ↓o_l, ↓o_a, ↓o_w, ↓o_call, ↓o_callv, ↓callvK_f, ↓callvK_y, ↓r_range, ↓rangeV_f, ↓putF_get, ↓putF_none, ↓evF_t, ↓evF_c, ↓evF_f, new_nx, set_nx, new_get, set_get, optV_some, optW_some, optA_some, finK_some, ↓wpI_nil, ↓wpR_skip, ↓wpR_exit, ↓wpR_ret, getD_zero, getD_succ, b_add, b_sub, b_mul, b_quo, b_rem, b_eql, b_neq, b_lss, b_leq, b_gtr, b_geq, u_not, w_i64, w_u64, w_u8, t_div, t_mod, pop, lop, aop, wop, resL, resV, tupleV, akV, isVal, isCell, Value.cells, List.map_cons, List.map_nil, Bool.not_true, Bool.not_false, Option.map_some, ↓reduceIte, Nat.reduceEqDiff, Nat.reduceAdd, Int.reduceOfNat, Int.reduceNegSucc, decide_true, decide_false, reduceCtorEq, List.getElem?_cons_zero, List.getElem?_cons_succ, List.length_cons, List.length_nil, setc_0, setc_s, srcR_c, src_n, src_v, src_r, src_s, bnd, lenV, capV, Option.isSome_none, Option.isNone_none, Option.isSome_some, Option.isNone_some, Bool.or_false, Bool.or_true, Bool.true_or, Bool.false_or, List.take_succ_cons, List.take_zero, List.drop_succ_cons, List.drop_zero, List.cons_append, List.nil_append, List.append_nil, List.take_nil, List.drop_nil, List.all_cons, List.all_nil, Bool.and_true, Bool.true_and, Kd.isRo, List.size_toArray, List.getElem?_toArray, List.toList_toArray, bldV, Nat.reduceLeDiff, Nat.le_refl, u_neg, b_or0, Int.reduceMul, Int.reduceAdd, Int.reduceSub, Int.zero_mul, Int.zero_add, Int.add_zero, b_and3, b_and8, b_and24, b_shr2, b_shrs2, b_shr8, b_shr32, b_shr56, b_shl2, b_shl8, b_shl32, toNat_add1, toNat_add2, toNat_addn, toNat_add2n, Int.reduceToNat, maxLen_eq, zeros_one, zeros_two, zeros_three, take_mapl, List.length_map, List.map_append, List.length_append, beq_self_eq_true, beq_true, beq_false, Bool.false_xor, Bool.true_xor, Bool.xor_false, Bool.xor_true, dec_t, dec_f, ↓w_app, appS_some, appV_v, appH_t, appH_f, Kd.isEx, Bool.false_and, partV, if_pos, if_neg, Nat.mul_one, Nat.one_mul, Nat.zero_add, Nat.add_zero, Int.toNat_natCast, true_and, and_true, hag, f6]) | (with_reducible first | refine condK_dec (fun _ => ?_) fun _ => ?_ | refine grd_dec (fun _ => ?_) fun _ => ?_ | refine egrd_dec (fun _ => ?_) fun _ => ?_))
    obtain ⟨KC, hKC⟩ : ∃ KC, K8.new (.cells [.slice a8 n8 c8] 24 .ex) = KC := ⟨_, rfl⟩
    have hx8C : HExt K8 KC := by rw [← hKC]; exact (HExt.refl K8).new _
    have hxPC : HExt Kp KC := j2.trans hx8C
    rw [hKC]
    have hInC : RwL (InR A) A KC (.slice (some ⟨KA.nx, 0, none⟩) m5 m5) (bs.take i ++ [row]) := hInP.mv hxPC.nx (fun u l h => h.mv hxPC.nx fun l os k h1 h2 => hxPC.ob l h1) fun b n c _ h => hxPC.ob b h
    have hWasC : RwL PW A KC v6 (bs.take i) := hWasP.mv hxPC.nx (fun u l h => h.mv hxPC.nx fun l os k h1 h2 => hxPC.ob l h1) fun b n c _ h => hxPC.ob b h
    have hv6 : ∀ b n c, v6 = .slice (some ⟨b, 0, none⟩) n c → b < KA.nx := fun b n c e => by
      obtain ⟨us, w1, _⟩ := hWasA
      rcases w1 with ⟨_, g⟩ | ⟨b', kd', g, _, w2, _⟩
      · rw [g] at e; cases e
      · rw [g] at e; cases e; exact w2
    refine hWasC.push (hxP.trans hxPC) (by omega) (fun K' h1 h2 u l h => h.mv h1 h2) (hPW.mv hx8C.nx fun l os k h1 h2 => hx8C.ob l h1) fun m6 Kr hWasR hxR hnR hcR hoR => ?_
    have hInR : RwL (InR A) A Kr (.slice (some ⟨KA.nx, 0, none⟩) m5 m5) (bs.take i ++ [row]) := hInC.mv (Nat.le_of_lt hnR) (fun u l h => h.mv (Nat.le_of_lt hnR) hcR) fun b n c e h => by
      cases e
      exact hoR KA.nx h fun o' n' c' e' => by
        obtain ⟨us, w1, _⟩ := hWasA
        rcases w1 with ⟨_, g⟩ | ⟨b', kd', g, _, w2, _⟩
        · rw [g] at e'; cases e'
        · rw [g] at e'; cases e'; omega
    repeat' (first | (simp (disch := first | omega | (decide +kernel) | (repeat first | assumption | exact HExt.refl _ | refine HExt.set ?_ (by first | omega | (simp only [new_nx, set_nx]; omega)) _ | refine HExt.new ?_ _)) only [↓RD, RU, accW_t, accW_f, isW, ↓putF_get, ↓putF_none, ↓evF_t, ↓evF_c, ↓evF_f, new_nx, set_nx, new_get, set_get, getD_zero, getD_succ, u_not, pop, lop, aop, wop, resL, resV, tupleV, akV, isVal, isCell, Value.cells, ρ0, ρ1, ρ2, ρ3, ρ4, ↓reduceIte, Nat.reduceEqDiff, Nat.reduceAdd, Int.reduceOfNat, Int.reduceNegSucc, reduceCtorEq, ρ5, ρ6, ρ7, ρ8, srcR_c, src_n, src_v, src_s, bnd, lenV, capV, ρ9, ρ10, ρ11, ρ12, ρ13, ρ14, ρ15, ρ16, ρ17, ρ18, ρ19, ρ20, ρ21, ρ22, ρ23, ρ24, Kd.isRo, ρ25, ρ26, bldV, Nat.reduceLeDiff, Int.reduceMul, Int.reduceAdd, Int.reduceSub, Int.reduceToNat, maxLen_eq, zeros_one, appS_some, appV_n, appV_v, appH_t, appH_f, Kd.isEx, ρ27, partV, CH.set_set, lkV, lkR, isKey, mupV, nxtV, ρ28, ρ29, hag, f7]) | (with_reducible first | refine condK_dec (fun _ => ?_) fun _ => ?_ | refine grd_dec (fun _ => ?_) fun _ => ?_ | refine egrd_dec (fun _ => ?_) fun _ => ?_))
    all_goals exact ⟨bs.length - (i + 1), by omega, i + 1, rfl, hil, rfl, by rw [htk]; exact hInR, by rw [htk]; exact hWasR, hxR, fun b o n c b' o' n' c' e e' => by
      cases e; cases e'
      have := hxPC.nx
      omega⟩
  · have hie : i = bs.length := by omega
    subst hie
    rw [List.take_length] at hIn hWas
    have hwf : ∀ l ∈ bs, ∀ x ∈ l, -9223372036854775808 ≤ x ∧ x ≤ 9223372036854775807 := fun l hl => by
      obtain ⟨j, hj, rfl⟩ := List.getElem_of_mem hl
      obtain ⟨_, _, _, _, _, _, u, _, _, _, _, _, _, _, hu⟩ := hbs.get hj
      exact hu.wf
    obtain ⟨us, hGu, hul, hU⟩ := hIn
    obtain ⟨ws, hGw, hwl, hWs⟩ := hWas
    have hBs : BsAt K v5 bs := by
      rcases hGu with ⟨e, rfl⟩ | ⟨b, kd, rfl, w1, w2, w3, w4⟩
      · subst e
        have : bs = [] := List.length_eq_zero_iff.1 hul.symm
        subst this
        exact ⟨_, 0, rfl, .inl ⟨rfl, rfl, .inl rfl⟩⟩
      · refine ⟨_, us.length, by rw [hul], .inr ⟨b, 0, _, _, _, rfl, w2, by omega, by rw [maxLen_eq]; omega, w3, by rw [flat_row]; simp [hul], fun j hj => ?_⟩⟩
        have hju : j < us.length := by omega
        refine ⟨.slice us[j].1 us[j].2.1 us[j].2.2, ?_, (hU j us[j] bs[j] (List.getElem?_eq_getElem hju) (List.getElem?_eq_getElem hj)).il (hrow _ (List.getElem_mem hj)) (hwf _ (List.getElem_mem hj))⟩
        rw [flat_row, Nat.zero_add, Nat.mul_one, List.drop_eq_getElem_cons (by simpa using hju)]
        simp
    repeat' (first | (simp (disch := first | omega | (decide +kernel) | (repeat first | assumption | exact HExt.refl _ | refine HExt.set ?_ (by first | omega | (simp only [new_nx, set_nx]; omega)) _ | refine HExt.new ?_ _)) only [↓RD, RU, accW_t, accW_f, isW, ↓putF_get, ↓putF_none, ↓evF_t, ↓evF_c, ↓evF_f, new_nx, set_nx, new_get, set_get, getD_zero, getD_succ, u_not, pop, lop, aop, wop, resL, resV, tupleV, akV, isVal, isCell, Value.cells, ρ0, ρ1, ρ2, ρ3, ρ4, ↓reduceIte, Nat.reduceEqDiff, Nat.reduceAdd, Int.reduceOfNat, Int.reduceNegSucc, reduceCtorEq, ρ5, ρ6, ρ7, ρ8, srcR_c, src_n, src_v, src_s, bnd, lenV, capV, ρ9, ρ10, ρ11, ρ12, ρ13, ρ14, ρ15, ρ16, ρ17, ρ18, ρ19, ρ20, ρ21, ρ22, ρ23, ρ24, Kd.isRo, ρ25, ρ26, bldV, Nat.reduceLeDiff, Int.reduceMul, Int.reduceAdd, Int.reduceSub, Int.reduceToNat, maxLen_eq, zeros_one, appS_some, appV_n, appV_v, appH_t, appH_f, Kd.isEx, ρ27, partV, CH.set_set, lkV, lkR, isKey, mupV, nxtV, ρ28, ρ29, hag, f7, f5, f6]) | (with_reducible first | refine condK_dec (fun _ => ?_) fun _ => ?_ | refine grd_dec (fun _ => ?_) fun _ => ?_ | refine egrd_dec (fun _ => ?_) fun _ => ?_))
    refine (Order_wp hBs (c := c)).mono fun va K2 ⟨hx2, hva⟩ => ?_
    obtain ⟨v1, rfl, hg1⟩ := ordV_grw hva
    repeat' (first | (simp (disch := first | omega | (decide +kernel) | (repeat first | assumption | exact HExt.refl _ | refine HExt.set ?_ (by first | omega | (simp only [new_nx, set_nx]; omega)) _ | refine HExt.new ?_ _)) only [↓RD, RU, accW_t, accW_f, isW, ↓putF_get, ↓putF_none, ↓evF_t, ↓evF_c, ↓evF_f, new_nx, set_nx, new_get, set_get, getD_zero, getD_succ, u_not, pop, lop, aop, wop, resL, resV, tupleV, akV, isVal, isCell, Value.cells, ρ0, ρ1, ρ2, ρ3, ρ4, ↓reduceIte, Nat.reduceEqDiff, Nat.reduceAdd, Int.reduceOfNat, Int.reduceNegSucc, reduceCtorEq, ρ5, ρ6, ρ7, ρ8, srcR_c, src_n, src_v, src_s, bnd, lenV, capV, ρ9, ρ10, ρ11, ρ12, ρ13, ρ14, ρ15, ρ16, ρ17, ρ18, ρ19, ρ20, ρ21, ρ22, ρ23, ρ24, Kd.isRo, ρ25, ρ26, bldV, Nat.reduceLeDiff, Int.reduceMul, Int.reduceAdd, Int.reduceSub, Int.reduceToNat, maxLen_eq, zeros_one, appS_some, appV_n, appV_v, appH_t, appH_f, Kd.isEx, ρ27, partV, CH.set_set, lkV, lkR, isKey, mupV, nxtV, ρ28, ρ29, hag, f5]) | (with_reducible first | refine condK_dec (fun _ => ?_) fun _ => ?_ | refine grd_dec (fun _ => ?_) fun _ => ?_ | refine egrd_dec (fun _ => ?_) fun _ => ?_))
    refine (Order_wp (hBs.ext hx2) (c := c)).mono fun va' K3 ⟨hx3, hva'⟩ => ?_
    obtain ⟨v2, rfl, hg2⟩ := ordV_grw hva'
    obtain ⟨L, hL⟩ : ∃ L, (match ordA bs c with | .error _ => [] | .ok l => l) = L := ⟨_, rfl⟩
    obtain ⟨ec, hec⟩ : ∃ ec, (match ordA bs c with | .error e => (e : Int) | .ok _ => 0) = ec := ⟨_, rfl⟩
    have hLb : L.length ≤ 201 ∧ ∀ x ∈ L, 0 ≤ x ∧ x ≤ 200 := by
      rw [← hL]
      cases hR : ordA bs c with
      | error e => exact ⟨by simp, fun x hx => by cases hx⟩
      | ok l => rw [hR] at hva; obtain ⟨_, _, _, _, _, _, _, z1, z2⟩ := hva; exact ⟨z1, z2⟩
    rw [hL] at hg1 hg2
    rw [hec]
    have hLw : ∀ x ∈ L, -9223372036854775808 ≤ x ∧ x ≤ 9223372036854775807 := fun x hx => by have := hLb.2 x hx; omega
    have hil1 := grw_il (by omega) hLw (hg1.ext hx3)
    have hil2 := grw_il (by omega) hLw hg2
    obtain ⟨q1, hv1⟩ := grw_len hg1
    obtain ⟨q2, hv2⟩ := grw_len hg2
    subst hv1 hv2
    have hsm := fun Q => @sameI_iff K3 _ _ L hil1 hil2 Q
    repeat' (first | (simp (disch := first | omega | (decide +kernel) | (repeat first | assumption | exact HExt.refl _ | refine HExt.set ?_ (by first | omega | (simp only [new_nx, set_nx]; omega)) _ | refine HExt.new ?_ _)) only [↓RD, RU, accW_t, accW_f, isW, ↓putF_get, ↓putF_none, ↓evF_t, ↓evF_c, ↓evF_f, new_nx, set_nx, new_get, set_get, getD_zero, getD_succ, u_not, pop, lop, aop, wop, resL, resV, tupleV, akV, isVal, isCell, Value.cells, ρ0, ρ1, ρ2, ρ3, ρ4, ↓reduceIte, Nat.reduceEqDiff, Nat.reduceAdd, Int.reduceOfNat, Int.reduceNegSucc, reduceCtorEq, ρ5, ρ6, ρ7, ρ8, srcR_c, src_n, src_v, src_s, bnd, lenV, capV, ρ9, ρ10, ρ11, ρ12, ρ13, ρ14, ρ15, ρ16, ρ17, ρ18, ρ19, ρ20, ρ21, ρ22, ρ23, ρ24, Kd.isRo, ρ25, ρ26, bldV, Nat.reduceLeDiff, Int.reduceMul, Int.reduceAdd, Int.reduceSub, Int.reduceToNat, maxLen_eq, zeros_one, appS_some, appV_n, appV_v, appH_t, appH_f, Kd.isEx, ρ27, partV, CH.set_set, lkV, lkR, isKey, mupV, nxtV, ρ28, ρ29, hsm]) | (with_reducible first | refine condK_dec (fun _ => ?_) fun _ => ?_ | refine grd_dec (fun _ => ?_) fun _ => ?_ | refine egrd_dec (fun _ => ?_) fun _ => ?_))
    refine loop_w (fun n fr K' => WrJ K K2 L (.slice q1 L.length L.length) (.slice q2 L.length L.length) n (fr 12) K') (n := L.length) ⟨0, rfl, Nat.zero_le _, by (repeat' (first | (simp (disch := first | omega | (decide +kernel) | (repeat first | assumption | exact HExt.refl _ | refine HExt.set ?_ (by first | omega | (simp only [new_nx, set_nx]; omega)) _ | refine HExt.new ?_ _)) only [↓RD, RU, accW_t, accW_f, isW, ↓putF_get, ↓putF_none, ↓evF_t, ↓evF_c, ↓evF_f, new_nx, set_nx, new_get, set_get, getD_zero, getD_succ, u_not, pop, lop, aop, wop, resL, resV, tupleV, akV, isVal, isCell, Value.cells, ρ0, ρ1, ρ2, ρ3, ρ4, ↓reduceIte, Nat.reduceEqDiff, Nat.reduceAdd, Int.reduceOfNat, Int.reduceNegSucc, reduceCtorEq, ρ5, ρ6, ρ7, ρ8, srcR_c, src_n, src_v, src_s, bnd, lenV, capV, ρ9, ρ10, ρ11, ρ12, ρ13, ρ14, ρ15, ρ16, ρ17, ρ18, ρ19, ρ20, ρ21, ρ22, ρ23, ρ24, Kd.isRo, ρ25, ρ26, bldV, Nat.reduceLeDiff, Int.reduceMul, Int.reduceAdd, Int.reduceSub, Int.reduceToNat, maxLen_eq, zeros_one, appS_some, appV_n, appV_v, appH_t, appH_f, Kd.isEx, ρ27, partV, CH.set_set, lkV, lkR, isKey, mupV, nxtV, ρ28, ρ29]) | (with_reducible first | refine condK_dec (fun _ => ?_) fun _ => ?_ | refine grd_dec (fun _ => ?_) fun _ => ?_ | refine egrd_dec (fun _ => ?_) fun _ => ?_)); all_goals rfl), by simpa using hg1.ext hx3, hg2, hx2.trans hx3⟩ ?_
    rintro m fr2 K4 ⟨j, rfl, hj, f12, hA, hB, hx4⟩ hag2
    by_cases hjl : j < L.length
    · rcases hA with ⟨e, _⟩ | ⟨ba, kd, e, a1, a2, a3, a4⟩
      · have := congrArg List.length e
        simp at this; omega
      have hlen0 : (List.replicate j (-3 : Int) ++ L.drop j).length = L.length := by simp; omega
      rw [hlen0] at e
      obtain rfl : q1 = some ⟨ba, 0, none⟩ := by cases e; rfl
      rw [flat_ints] at a3
      have hset : setCells ((List.replicate j (-3 : Int) ++ L.drop j).map (.int .i64)) j [.int .i64 (-3)] = (List.replicate (j + 1) (-3 : Int) ++ L.drop (j + 1)).map (.int .i64) := by
        rw [setc1 (by simp; omega), ← List.map_set]
        congr 1
        rw [List.set_append_right _ _ (by simp), List.length_replicate, Nat.sub_self, List.drop_eq_getElem_cons hjl, List.set_cons_zero, List.replicate_succ', List.append_assoc]; rfl
      obtain ⟨cs, hcs⟩ : ∃ cs, (List.replicate j (-3 : Int) ++ L.drop j).map (Value.int .i64) = cs := ⟨_, rfl⟩
      have hlm : j + 1 ≤ cs.length := by rw [← hcs]; simp; omega
      rw [hcs] at hset a3
      have hba : ba < K2.nx := by
        rcases hg1 with ⟨e1, _⟩ | ⟨b', kd', e1, _, w2, _⟩
        · rw [e1] at hjl; cases hjl
        · cases e1; exact w2
      repeat' (first | (simp (disch := first | omega | (decide +kernel) | (repeat first | assumption | exact HExt.refl _ | refine HExt.set ?_ (by first | omega | (simp only [new_nx, set_nx]; omega)) _ | refine HExt.new ?_ _)) only [↓r_seq, ↓r_block, ↓seqK_n, ↓seqK_r, ↓seqK_e, ↓blockK_n, ↓blockK_r, ↓blockK_e, ↓loopI_n, ↓loopI_r, ↓loopI_e, ↓funK_n, ↓funK_r, ↓r_reg, ↓r_drw, ↓r_cond, ↓condK_t, ↓condK_f, ↓i_cons, ↓eitemK, ↓e_nil, ↓e_cons, ↓e_grd, ↓egrd_tt, ↓egrd_ff, ↓egrd_tf, ↓egrd_ft, ↓egrd_s, ↓drwK, ↓r_drw2, ↓chk_nil, ↓chk_n, ↓chk_g, agL, agV_tt, agV_ff, agV_tf, agV_ft, agV_s, agE, accW_t, accW_f, isW, ↓i_grd, ↓grd_tt, ↓grd_ff, ↓grd_tf, ↓grd_ft, ↓grd_s, ↓itemK, ↓o_p, ↓o_l, ↓o_a, ↓o_w, ↓o_call, ↓o_callv, ↓callvK_f, ↓callvK_y, ↓r_range, ↓rangeV_f, ↓putF_get, ↓putF_none, ↓evF_t, ↓evF_c, ↓evF_f, new_nx, set_nx, new_get, set_get, optV_some, optW_some, optA_some, finK_some, ↓wpI_nil, ↓wpR_skip, ↓wpR_exit, ↓wpR_ret, getD_zero, getD_succ, b_add, b_sub, b_mul, b_quo, b_rem, b_eql, b_neq, b_lss, b_leq, b_gtr, b_geq, u_not, w_i64, w_u64, w_u8, t_div, t_mod, pop, lop, aop, wop, resL, resV, tupleV, akV, isVal, isCell, Value.cells, List.map_cons, List.map_nil, Bool.not_true, Bool.not_false, Option.map_some, ↓reduceIte, Nat.reduceEqDiff, Nat.reduceAdd, Int.reduceOfNat, Int.reduceNegSucc, decide_true, decide_false, reduceCtorEq, List.getElem?_cons_zero, List.getElem?_cons_succ, List.length_cons, List.length_nil, setc_0, setc_s, srcR_c, src_n, src_v, src_r, src_s, bnd, lenV, capV, Option.isSome_none, Option.isNone_none, Option.isSome_some, Option.isNone_some, Bool.or_false, Bool.or_true, Bool.true_or, Bool.false_or, List.take_succ_cons, List.take_zero, List.drop_succ_cons, List.drop_zero, List.cons_append, List.nil_append, List.append_nil, List.take_nil, List.drop_nil, List.all_cons, List.all_nil, Bool.and_true, Bool.true_and, List.size_toArray, List.getElem?_toArray, List.toList_toArray, bldV, Nat.reduceLeDiff, Nat.le_refl, u_neg, b_or0, Int.reduceMul, Int.reduceAdd, Int.reduceSub, Int.zero_mul, Int.zero_add, Int.add_zero, b_and3, b_and8, b_and24, b_shr2, b_shrs2, b_shr8, b_shr32, b_shr56, b_shl2, b_shl8, b_shl32, toNat_add1, toNat_add2, toNat_addn, toNat_add2n, Int.reduceToNat, maxLen_eq, zeros_one, zeros_two, zeros_three, take_mapl, List.length_map, List.map_append, List.length_append, beq_self_eq_true, beq_true, beq_false, Bool.false_xor, Bool.true_xor, Bool.xor_false, Bool.xor_true, dec_t, dec_f, ↓w_app, appS_some, appV_n, appV_v, appV_r, appR_c, appH_t, appH_f, Kd.isEx, Bool.false_and, partV, if_pos, if_neg, Nat.mul_one, Nat.one_mul, Nat.zero_add, Nat.add_zero, Int.toNat_natCast, true_and, and_true, hag2, f12, a3, a4, hlm]) | (with_reducible first | refine condK_dec (fun _ => ?_) fun _ => ?_ | refine grd_dec (fun _ => ?_) fun _ => ?_ | refine egrd_dec (fun _ => ?_) fun _ => ?_))
      all_goals first | (exfalso; omega) | exact ⟨L.length - (j + 1), by omega, j + 1, rfl, hjl, rfl, .inr ⟨ba, kd, by simp; omega, a1, a2, by rw [flat_ints, ← hset]; exact set_get.trans (if_pos rfl), a4⟩, by
        rcases hB with g | ⟨bb, kb, e2, w1, w2, w3, w4⟩
        · exact .inl g
        · exact .inr ⟨bb, kb, e2, w1, w2, (set_get.trans (if_neg (by omega))).trans w3, w4⟩, hx4.set a1 _⟩
    · have hje : j = L.length := by omega
      subst hje
      rw [List.drop_eq_nil_of_le (Nat.le_refl _), List.append_nil] at hA
      repeat' (first | (simp (disch := first | omega | (decide +kernel) | (repeat first | assumption | exact HExt.refl _ | refine HExt.set ?_ (by first | omega | (simp only [new_nx, set_nx]; omega)) _ | refine HExt.new ?_ _)) only [↓r_seq, ↓r_block, ↓seqK_n, ↓seqK_r, ↓seqK_e, ↓blockK_n, ↓blockK_r, ↓blockK_e, ↓loopI_n, ↓loopI_r, ↓loopI_e, ↓funK_n, ↓funK_r, ↓r_reg, ↓r_drw, ↓r_cond, ↓condK_t, ↓condK_f, ↓i_cons, ↓eitemK, ↓e_nil, ↓e_cons, ↓e_grd, ↓egrd_tt, ↓egrd_ff, ↓egrd_tf, ↓egrd_ft, ↓egrd_s, ↓drwK, ↓r_drw2, ↓chk_nil, ↓chk_n, ↓chk_g, agL, agV_tt, agV_ff, agV_tf, agV_ft, agV_s, agE, accW_t, accW_f, isW, ↓i_grd, ↓grd_tt, ↓grd_ff, ↓grd_tf, ↓grd_ft, ↓grd_s, ↓itemK, ↓o_p, ↓o_l, ↓o_a, ↓o_w, ↓o_call, ↓o_callv, ↓callvK_f, ↓callvK_y, ↓r_range, ↓rangeV_f, ↓putF_get, ↓putF_none, ↓evF_t, ↓evF_c, ↓evF_f, new_nx, set_nx, new_get, set_get, optV_some, optW_some, optA_some, finK_some, ↓wpI_nil, ↓wpR_skip, ↓wpR_exit, ↓wpR_ret, getD_zero, getD_succ, b_add, b_sub, b_mul, b_quo, b_rem, b_eql, b_neq, b_lss, b_leq, b_gtr, b_geq, u_not, w_i64, w_u64, w_u8, t_div, t_mod, pop, lop, aop, wop, resL, resV, tupleV, akV, isVal, isCell, Value.cells, List.map_cons, List.map_nil, Bool.not_true, Bool.not_false, Option.map_some, ↓reduceIte, Nat.reduceEqDiff, Nat.reduceAdd, Int.reduceOfNat, Int.reduceNegSucc, decide_true, decide_false, reduceCtorEq, List.getElem?_cons_zero, List.getElem?_cons_succ, List.length_cons, List.length_nil, setc_0, setc_s, srcR_c, src_n, src_v, src_r, src_s, bnd, lenV, capV, Option.isSome_none, Option.isNone_none, Option.isSome_some, Option.isNone_some, Bool.or_false, Bool.or_true, Bool.true_or, Bool.false_or, List.take_succ_cons, List.take_zero, List.drop_succ_cons, List.drop_zero, List.cons_append, List.nil_append, List.append_nil, List.take_nil, List.drop_nil, List.all_cons, List.all_nil, Bool.and_true, Bool.true_and, Kd.isRo, List.size_toArray, List.getElem?_toArray, List.toList_toArray, bldV, Nat.reduceLeDiff, Nat.le_refl, u_neg, b_or0, Int.reduceMul, Int.reduceAdd, Int.reduceSub, Int.zero_mul, Int.zero_add, Int.add_zero, b_and3, b_and8, b_and24, b_shr2, b_shrs2, b_shr8, b_shr32, b_shr56, b_shl2, b_shl8, b_shl32, toNat_add1, toNat_add2, toNat_addn, toNat_add2n, Int.reduceToNat, maxLen_eq, zeros_one, zeros_two, zeros_three, take_mapl, List.length_map, List.map_append, List.length_append, beq_self_eq_true, beq_true, beq_false, Bool.false_xor, Bool.true_xor, Bool.xor_false, Bool.xor_true, dec_t, dec_f, ↓w_app, appS_some, appV_v, appH_t, appH_f, Kd.isEx, Bool.false_and, partV, if_pos, if_neg, Nat.mul_one, Nat.one_mul, Nat.zero_add, Nat.add_zero, Int.toNat_natCast, true_and, and_true, hag2, f12, zeros_three]) | (with_reducible first | refine condK_dec (fun _ => ?_) fun _ => ?_ | refine grd_dec (fun _ => ?_) fun _ => ?_ | refine egrd_dec (fun _ => ?_) fun _ => ?_))
      obtain ⟨KA, hKA⟩ : ∃ KA, K4.new (.cells [.int .i64 (-4), .int .i64 (-4), .int .i64 (-4)] 3 .ex) = KA := ⟨_, rfl⟩
      have hxA : HExt K4 KA := by rw [← hKA]; exact (HExt.refl K4).new _
      rw [hKA]
      refine optW_app (ys := [-4, -4, -4]) (ints_ok .i64) (hA.ext hxA) (hx4.trans hxA) (by simp; omega) (by simp; omega) rfl rfl fun vg K5 j1 j2 j3 j4 => ?_
      have hB5 : Grw K2 3 1 (ints .i64) K5 (.slice q2 L.length L.length) L := by
        rcases hB with g | ⟨bb, kb, e2, w1, w2, w3, w4⟩
        · exact .inl g
        · refine .inr ⟨bb, kb, e2, w1, Nat.lt_of_lt_of_le w2 (Nat.le_trans hxA.nx j3), (j4 bb (Nat.lt_of_lt_of_le w2 hxA.nx) fun o n c e => ?_).trans ((hxA.ob bb w2).trans w3), w4⟩
          rcases hg1 with ⟨_, g⟩ | ⟨b', kd', g, _, z2, _⟩
          · rw [g] at e; cases e
          · rw [g] at e; cases e; omega
      repeat' (first | (simp (disch := first | omega | (decide +kernel) | (repeat first | assumption | exact HExt.refl _ | refine HExt.set ?_ (by first | omega | (simp only [new_nx, set_nx]; omega)) _ | refine HExt.new ?_ _)) only [↓RD, RU, accW_t, accW_f, isW, ↓putF_get, ↓putF_none, ↓evF_t, ↓evF_c, ↓evF_f, new_nx, set_nx, new_get, set_get, getD_zero, getD_succ, u_not, pop, lop, aop, wop, resL, resV, tupleV, akV, isVal, isCell, Value.cells, ρ0, ρ1, ρ2, ρ3, ρ4, ↓reduceIte, Nat.reduceEqDiff, Nat.reduceAdd, Int.reduceOfNat, Int.reduceNegSucc, reduceCtorEq, ρ5, ρ6, ρ7, ρ8, srcR_c, src_n, src_v, src_s, bnd, lenV, capV, ρ9, ρ10, ρ11, ρ12, ρ13, ρ14, ρ15, ρ16, ρ17, ρ18, ρ19, ρ20, ρ21, ρ22, ρ23, ρ24, Kd.isRo, ρ25, ρ26, bldV, Nat.reduceLeDiff, Int.reduceMul, Int.reduceAdd, Int.reduceSub, Int.reduceToNat, maxLen_eq, zeros_one, appS_some, appV_n, appV_v, appH_t, appH_f, Kd.isEx, ρ27, partV, CH.set_set, lkV, lkR, isKey, mupV, nxtV, ρ28, ρ29, hag2]) | (with_reducible first | refine condK_dec (fun _ => ?_) fun _ => ?_ | refine grd_dec (fun _ => ?_) fun _ => ?_ | refine egrd_dec (fun _ => ?_) fun _ => ?_))
      refine loop_w (fun n fr K' => ∃ j : Nat, n = L.length - j ∧ j ≤ L.length ∧ fr 14 = .int .i64 (j : Nat) ∧ K' = K5) (n := L.length) ⟨0, rfl, Nat.zero_le _, by (repeat' (first | (simp (disch := first | omega | (decide +kernel) | (repeat first | assumption | exact HExt.refl _ | refine HExt.set ?_ (by first | omega | (simp only [new_nx, set_nx]; omega)) _ | refine HExt.new ?_ _)) only [↓RD, RU, accW_t, accW_f, isW, ↓putF_get, ↓putF_none, ↓evF_t, ↓evF_c, ↓evF_f, new_nx, set_nx, new_get, set_get, getD_zero, getD_succ, u_not, pop, lop, aop, wop, resL, resV, tupleV, akV, isVal, isCell, Value.cells, ρ0, ρ1, ρ2, ρ3, ρ4, ↓reduceIte, Nat.reduceEqDiff, Nat.reduceAdd, Int.reduceOfNat, Int.reduceNegSucc, reduceCtorEq, ρ5, ρ6, ρ7, ρ8, srcR_c, src_n, src_v, src_s, bnd, lenV, capV, ρ9, ρ10, ρ11, ρ12, ρ13, ρ14, ρ15, ρ16, ρ17, ρ18, ρ19, ρ20, ρ21, ρ22, ρ23, ρ24, Kd.isRo, ρ25, ρ26, bldV, Nat.reduceLeDiff, Int.reduceMul, Int.reduceAdd, Int.reduceSub, Int.reduceToNat, maxLen_eq, zeros_one, appS_some, appV_n, appV_v, appH_t, appH_f, Kd.isEx, ρ27, partV, CH.set_set, lkV, lkR, isKey, mupV, nxtV, ρ28, ρ29]) | (with_reducible first | refine condK_dec (fun _ => ?_) fun _ => ?_ | refine grd_dec (fun _ => ?_) fun _ => ?_ | refine egrd_dec (fun _ => ?_) fun _ => ?_)); all_goals rfl), rfl⟩ ?_
      rintro m fr3 K6 ⟨j, rfl, hj, f14, rfl⟩ hag3
      by_cases hjl : j < L.length
      · rcases hB5 with ⟨e, _⟩ | ⟨bb, kb, e2, w1, w2, w3, w4⟩
        · rw [e] at hjl; cases hjl
        obtain rfl : q2 = some ⟨bb, 0, none⟩ := by cases e2; rfl
        rcases j1 with ⟨e, _⟩ | ⟨bg, kg, hvg, z1, z2, z3, z4⟩
        · have := congrArg List.length e
          simp at this
        rw [flat_ints] at w3 z3
        have c1 : (L.map (Value.int .i64))[j]? = some (.int .i64 (L.getD j 0)) := by rw [List.getElem?_map, List.getElem?_eq_getElem hjl, List.getD_eq_getElem?_getD, List.getElem?_eq_getElem hjl]; rfl
        have c2 : ((List.replicate L.length (-3 : Int) ++ [-4, -4, -4]).map (Value.int .i64))[j]? = some (.int .i64 (-3)) := by rw [List.getElem?_map, List.getElem?_append_left (by simp; omega), List.getElem?_replicate, if_pos hjl]; rfl
        have hl2 : (List.replicate L.length (-3 : Int) ++ [-4, -4, -4]).length = L.length + 3 := by simp
        obtain ⟨cb, hcb⟩ : ∃ cs, L.map (Value.int .i64) = cs := ⟨_, rfl⟩
        obtain ⟨cg, hcg⟩ : ∃ cs, (List.replicate L.length (-3 : Int) ++ [-4, -4, -4]).map (Value.int .i64) = cs := ⟨_, rfl⟩
        rw [hcb] at c1 w3
        rw [hcg] at c2 z3
        obtain ⟨lg, hlg⟩ : ∃ n, (List.replicate L.length (-3 : Int) ++ [-4, -4, -4]).length = n := ⟨_, rfl⟩
        rw [hlg] at hl2 hvg
        subst hvg
        have c3 : ¬ L.getD j 0 < 0 := by
          rw [List.getD_eq_getElem?_getD, List.getElem?_eq_getElem hjl]
          have := (hLb.2 _ (List.getElem_mem hjl)).1
          simp only [Option.getD_some]; omega
        repeat' (first | (simp (disch := first | omega | (decide +kernel) | (repeat first | assumption | exact HExt.refl _ | refine HExt.set ?_ (by first | omega | (simp only [new_nx, set_nx]; omega)) _ | refine HExt.new ?_ _)) only [↓RD, RU, accW_t, accW_f, isW, ↓putF_get, ↓putF_none, ↓evF_t, ↓evF_c, ↓evF_f, new_nx, set_nx, new_get, set_get, getD_zero, getD_succ, u_not, pop, lop, aop, wop, resL, resV, tupleV, akV, isVal, isCell, Value.cells, ρ0, ρ1, ρ2, ρ3, ρ4, ↓reduceIte, Nat.reduceEqDiff, Nat.reduceAdd, Int.reduceOfNat, Int.reduceNegSucc, reduceCtorEq, ρ5, ρ6, ρ7, ρ8, srcR_c, src_n, src_v, src_s, bnd, lenV, capV, ρ9, ρ10, ρ11, ρ12, ρ13, ρ14, ρ15, ρ16, ρ17, ρ18, ρ19, ρ20, ρ21, ρ22, ρ23, ρ24, Kd.isRo, ρ25, ρ26, bldV, Nat.reduceLeDiff, Int.reduceMul, Int.reduceAdd, Int.reduceSub, Int.reduceToNat, maxLen_eq, zeros_one, appS_some, appV_n, appV_v, appH_t, appH_f, Kd.isEx, ρ27, partV, CH.set_set, lkV, lkR, isKey, mupV, nxtV, ρ28, ρ29, hag2, hag3, f14, w3, z3, c1, c2, hl2, c3]) | (with_reducible first | refine condK_dec (fun _ => ?_) fun _ => ?_ | refine grd_dec (fun _ => ?_) fun _ => ?_ | refine egrd_dec (fun _ => ?_) fun _ => ?_))
        all_goals exact ⟨L.length - (j + 1), by omega, j + 1, rfl, hjl, rfl⟩
      · repeat' (first | (simp (disch := first | omega | (decide +kernel) | (repeat first | assumption | exact HExt.refl _ | refine HExt.set ?_ (by first | omega | (simp only [new_nx, set_nx]; omega)) _ | refine HExt.new ?_ _)) only [↓RD, RU, accW_t, accW_f, isW, ↓putF_get, ↓putF_none, ↓evF_t, ↓evF_c, ↓evF_f, new_nx, set_nx, new_get, set_get, getD_zero, getD_succ, u_not, pop, lop, aop, wop, resL, resV, tupleV, akV, isVal, isCell, Value.cells, ρ0, ρ1, ρ2, ρ3, ρ4, ↓reduceIte, Nat.reduceEqDiff, Nat.reduceAdd, Int.reduceOfNat, Int.reduceNegSucc, reduceCtorEq, ρ5, ρ6, ρ7, ρ8, srcR_c, src_n, src_v, src_s, bnd, lenV, capV, ρ9, ρ10, ρ11, ρ12, ρ13, ρ14, ρ15, ρ16, ρ17, ρ18, ρ19, ρ20, ρ21, ρ22, ρ23, ρ24, Kd.isRo, ρ25, ρ26, bldV, Nat.reduceLeDiff, Int.reduceMul, Int.reduceAdd, Int.reduceSub, Int.reduceToNat, maxLen_eq, zeros_one, appS_some, appV_n, appV_v, appH_t, appH_f, Kd.isEx, ρ27, partV, CH.set_set, lkV, lkR, isKey, mupV, nxtV, ρ28, ρ29, hag2, hag3, f14]) | (with_reducible first | refine condK_dec (fun _ => ?_) fun _ => ?_ | refine grd_dec (fun _ => ?_) fun _ => ?_ | refine egrd_dec (fun _ => ?_) fun _ => ?_))
        refine loop_w (fun n fr K' => ∃ j : Nat, n = bs.length - j ∧ j ≤ bs.length ∧ fr 15 = .int .i64 (j : Nat) ∧ K' = K6) (n := bs.length) ⟨0, rfl, Nat.zero_le _, by (repeat' (first | (simp (disch := first | omega | (decide +kernel) | (repeat first | assumption | exact HExt.refl _ | refine HExt.set ?_ (by first | omega | (simp only [new_nx, set_nx]; omega)) _ | refine HExt.new ?_ _)) only [↓RD, RU, accW_t, accW_f, isW, ↓putF_get, ↓putF_none, ↓evF_t, ↓evF_c, ↓evF_f, new_nx, set_nx, new_get, set_get, getD_zero, getD_succ, u_not, pop, lop, aop, wop, resL, resV, tupleV, akV, isVal, isCell, Value.cells, ρ0, ρ1, ρ2, ρ3, ρ4, ↓reduceIte, Nat.reduceEqDiff, Nat.reduceAdd, Int.reduceOfNat, Int.reduceNegSucc, reduceCtorEq, ρ5, ρ6, ρ7, ρ8, srcR_c, src_n, src_v, src_s, bnd, lenV, capV, ρ9, ρ10, ρ11, ρ12, ρ13, ρ14, ρ15, ρ16, ρ17, ρ18, ρ19, ρ20, ρ21, ρ22, ρ23, ρ24, Kd.isRo, ρ25, ρ26, bldV, Nat.reduceLeDiff, Int.reduceMul, Int.reduceAdd, Int.reduceSub, Int.reduceToNat, maxLen_eq, zeros_one, appS_some, appV_n, appV_v, appH_t, appH_f, Kd.isEx, ρ27, partV, CH.set_set, lkV, lkR, isKey, mupV, nxtV, ρ28, ρ29]) | (with_reducible first | refine condK_dec (fun _ => ?_) fun _ => ?_ | refine grd_dec (fun _ => ?_) fun _ => ?_ | refine egrd_dec (fun _ => ?_) fun _ => ?_)); all_goals rfl), rfl⟩ ?_
        rintro m fr4 K7 ⟨y, rfl, hy, f15, rfl⟩ hag4
        obtain ⟨q5, c5, hv5, _⟩ := hBs
        subst hv5
        by_cases hyl : y < bs.length
        · obtain ⟨row, hr⟩ : ∃ row, bs[y] = row := ⟨_, rfl⟩
          have hrl : row.length ≤ 1048576 := hrow row (by rw [← hr]; exact List.getElem_mem hyl)
          have hrw := hwf row (by rw [← hr]; exact List.getElem_mem hyl)
          have huy : y < us.length := by omega
          have hwy : y < ws.length := by omega
          have hbe : bs[y]? = some row := by rw [List.getElem?_eq_getElem hyl, hr]
          have hIy := hU y us[y] row (List.getElem?_eq_getElem huy) hbe
          have hWy := hWs y ws[y] row (List.getElem?_eq_getElem hwy) hbe
          have hI7 := hIy.mv j2.nx fun l os k h1 h2 => j2.ob l h1
          have hW7 := hWy.mv j2.nx fun l os k h1 h2 => j2.ob l h1
          have hIil := hI7.il hrl hrw
          have hWil := hW7.1
          obtain ⟨R, kR, eR, _, b2, b3, b4⟩ := hI7
          obtain ⟨⟨wa, wn, wc⟩, hwe⟩ : ∃ w, ws[y] = w := ⟨_, rfl⟩
          rw [hwe] at hWil
          rw [eR] at hIil
          simp only at hWil hIil
          obtain ⟨_, _, ew, _⟩ := id hWil
          obtain rfl : wn = row.length := (Value.slice.inj ew).2.1
          rcases hGu.ext j2 with ⟨e, _⟩ | ⟨bi, ki, ei, _, i2, i3, i4⟩
          · rw [e] at huy; cases huy
          rcases hGw.ext j2 with ⟨e, _⟩ | ⟨bw, kw, ew', _, x2, x3, x4⟩
          · rw [e] at hwy; cases hwy
          subst ew'
          obtain ⟨rfl, rfl⟩ : q5 = some ⟨bi, 0, none⟩ ∧ c5 = us.length := ⟨(Value.slice.inj ei).1, (Value.slice.inj ei).2.2⟩
          rw [flat_row] at i3 x3
          have ci1 : (us.map fun x => Value.slice x.1 x.2.1 x.2.2)[y]? = some (.slice (some ⟨R, 0, none⟩) row.length (row.length + 2)) := by rw [List.getElem?_map, List.getElem?_eq_getElem huy, eR]; rfl
          have cw1 : (ws.map fun x => Value.slice x.1 x.2.1 x.2.2)[y]? = some (.slice wa row.length wc) := by rw [List.getElem?_map, List.getElem?_eq_getElem hwy, hwe]; rfl
          obtain ⟨ci, hci⟩ : ∃ cs, (us.map fun x => Value.slice x.1 x.2.1 x.2.2) = cs := ⟨_, rfl⟩
          obtain ⟨cw, hcw⟩ : ∃ cs, (ws.map fun x => Value.slice x.1 x.2.1 x.2.2) = cs := ⟨_, rfl⟩
          rw [hci] at ci1 i3
          rw [hcw] at cw1 x3
          have r1 : (inC row ++ [Value.int .i64 (-7), .int .i64 (-7)])[row.length]? = some (.int .i64 (-7)) := by rw [List.getElem?_append_right (by rw [inC_len]; exact Nat.le_refl _), inC_len, Nat.sub_self]; rfl
          have r2 : (inC row ++ [Value.int .i64 (-7), .int .i64 (-7)])[row.length + 1]? = some (.int .i64 (-7)) := by rw [List.getElem?_append_right (by rw [inC_len]; omega), inC_len, show row.length + 1 - row.length = 1 by omega]; rfl
          obtain ⟨cr, hcr⟩ : ∃ cs, inC row ++ [Value.int .i64 (-7), .int .i64 (-7)] = cs := ⟨_, rfl⟩
          rw [hcr] at r1 r2 b3
          have hokR := okSl_of (e := 3) (o := 0) (n := row.length) (c := row.length + 2) b3
          have hslR := @room_slc R row.length (row.length + 2) row.length (by omega)
          have hs2 : ((row.length : Nat) : Int) + 2 = ((row.length + 2 : Nat) : Int) := by omega
          have hs1 : ((row.length : Nat) : Int) + 1 = ((row.length + 1 : Nat) : Int) := by omega
          have hsm2 := fun Q => @sameI_iff K7 _ _ row hIil hWil Q
          repeat' (first | (simp (disch := first | omega | (decide +kernel) | (repeat first | assumption | exact HExt.refl _ | refine HExt.set ?_ (by first | omega | (simp only [new_nx, set_nx]; omega)) _ | refine HExt.new ?_ _)) only [↓RD, RU, accW_t, accW_f, isW, ↓putF_get, ↓putF_none, ↓evF_t, ↓evF_c, ↓evF_f, new_nx, set_nx, new_get, set_get, getD_zero, getD_succ, u_not, pop, lop, aop, wop, resL, resV, tupleV, akV, isVal, isCell, Value.cells, ρ0, ρ1, ρ2, ρ3, ρ4, ↓reduceIte, Nat.reduceEqDiff, Nat.reduceAdd, Int.reduceOfNat, Int.reduceNegSucc, reduceCtorEq, ρ5, ρ6, ρ7, ρ8, srcR_c, src_n, src_v, src_s, bnd, lenV, capV, ρ9, ρ10, ρ11, ρ12, ρ13, ρ14, ρ15, ρ16, ρ17, ρ18, ρ19, ρ20, ρ21, ρ22, ρ23, ρ24, Kd.isRo, ρ25, ρ26, bldV, Nat.reduceLeDiff, Int.reduceMul, Int.reduceAdd, Int.reduceSub, Int.reduceToNat, maxLen_eq, zeros_one, appS_some, appV_n, appV_v, appH_t, appH_f, Kd.isEx, ρ27, partV, CH.set_set, lkV, lkR, isKey, mupV, nxtV, ρ28, ρ29, hag, hag2, hag3, hag4, f5, f6, f15, i3, x3, ci1, cw1, hokR, hslR, hs2, hs1, hsm2, b3, r1, r2, hul, hwl]) | (with_reducible first | refine condK_dec (fun _ => ?_) fun _ => ?_ | refine grd_dec (fun _ => ?_) fun _ => ?_ | refine egrd_dec (fun _ => ?_) fun _ => ?_))
          all_goals exact ⟨bs.length - (y + 1), by omega, y + 1, rfl, hyl, rfl⟩
        · repeat' (first | (simp (disch := first | omega | (decide +kernel) | (repeat first | assumption | exact HExt.refl _ | refine HExt.set ?_ (by first | omega | (simp only [new_nx, set_nx]; omega)) _ | refine HExt.new ?_ _)) only [↓RD, RU, accW_t, accW_f, isW, ↓putF_get, ↓putF_none, ↓evF_t, ↓evF_c, ↓evF_f, new_nx, set_nx, new_get, set_get, getD_zero, getD_succ, u_not, pop, lop, aop, wop, resL, resV, tupleV, akV, isVal, isCell, Value.cells, ρ0, ρ1, ρ2, ρ3, ρ4, ↓reduceIte, Nat.reduceEqDiff, Nat.reduceAdd, Int.reduceOfNat, Int.reduceNegSucc, reduceCtorEq, ρ5, ρ6, ρ7, ρ8, srcR_c, src_n, src_v, src_s, bnd, lenV, capV, ρ9, ρ10, ρ11, ρ12, ρ13, ρ14, ρ15, ρ16, ρ17, ρ18, ρ19, ρ20, ρ21, ρ22, ρ23, ρ24, Kd.isRo, ρ25, ρ26, bldV, Nat.reduceLeDiff, Int.reduceMul, Int.reduceAdd, Int.reduceSub, Int.reduceToNat, maxLen_eq, zeros_one, appS_some, appV_n, appV_v, appH_t, appH_f, Kd.isEx, ρ27, partV, CH.set_set, lkV, lkR, isKey, mupV, nxtV, ρ28, ρ29, hag, hag2, hag3, hag4, f5, f15]) | (with_reducible first | refine condK_dec (fun _ => ?_) fun _ => ?_ | refine grd_dec (fun _ => ?_) fun _ => ?_ | refine egrd_dec (fun _ => ?_) fun _ => ?_))
theorem sum_ones : ∀ {x : List Int}, (x.map fun _ => 1).sum = x.length
  | [] => rfl
  | a :: x => by simp only [List.map_cons, List.sum_cons, sum_ones (x := x), List.length_cons]; omega
theorem bulk_rows {N : Nat} : ∀ {xs : List (List Int)}, (xs.map fun ys => (ys.map fun _ => 1).sum + 1).sum ≤ N → xs.length ≤ N ∧ ∀ l ∈ xs, l.length ≤ N
  | [], _ => ⟨Nat.zero_le _, fun l h => by cases h⟩
  | x :: xs, h => by
    simp only [List.map_cons, List.sum_cons] at h
    obtain ⟨h1, h2⟩ := bulk_rows (xs := xs) (N := N - ((x.map fun _ => 1).sum + 1)) (by omega)
    have hx := @sum_ones x
    refine ⟨by simp only [List.length_cons]; omega, fun l hl => ?_⟩
    rcases List.mem_cons.1 hl with rfl | hl
    · omega
    · have := h2 l hl; omega
end Can
end Go.Proofs.Ythmhcpfplmhgnaa
