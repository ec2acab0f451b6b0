/- Flow: Reach of the program. -/
import Derived.Test.YtkomlcpofchjfaaFlRchR
namespace Go.Proofs.Ytkomlcpofchjfaa
namespace Can
open Go Go.RowKit
set_option linter.unusedSimpArgs false
set_option linter.unusedVariables false
set_option maxRecDepth 4000
def RowOf (v : Value) (x : Nat) : Prop := ∃ o n c, v = .slice (some ⟨x, o, none⟩) n c
theorem notRow {v : Value} {x : Nat} (h : ¬ RowOf v x) : ∀ o n c, v ≠ .slice (some ⟨x, o, none⟩) n c := fun o n c e => h ⟨o, n, c, e⟩
def natInts (ts : List Nat) : List Int := ts.map fun (x : Nat) => (x : Int)
structure RS (K1 : CH) (F : Fn') (bs : List Bool) (ts : List Nat) (v : Value) (K : CH) : Prop where
  ext : HExt K1 K
  nx : K1.nx + 4 ≤ K.nx
  row : K.ob K1.nx = .cells (bools bs) 4 .ex
  c4 : K.ob (K1.nx + 1) = .cells [.slice (some ⟨K1.nx, 0, none⟩) F.ins.length F.ins.length] 37 .ex
  c5 : K.ob (K1.nx + 3) = .cells [v] 36 .ex
  grw : Grw K1 3 1 (ints .i64) K v (natInts ts)
  nr : ∀ x, x = K1.nx ∨ x = K1.nx + 1 ∨ x = K1.nx + 3 → ¬ RowOf v x
  len : bs.length = F.ins.length
  b0 : bs[0]? = some true
  snd : SndB F bs
  tb : ∀ x ∈ ts, bs[x]? = some true
  bt : ∀ x, bs[x]? = some true → x ∈ ts
  cnt : ts.length + cf bs = F.ins.length
theorem RS.row_lt {K1 K : CH} {F : Fn'} {bs : List Bool} {ts : List Nat} {v : Value} (h : RS K1 F bs ts v K) {x : Nat} (hx : RowOf v x) : K1.nx ≤ x ∧ x < K.nx := by
  obtain ⟨o, n, c, e⟩ := hx
  exact h.grw.row e
/-- The same, where only other names have turned. -/
theorem RS.mv {K1 K K' : CH} {F : Fn'} {bs : List Bool} {ts : List Nat} {v : Value} (h : RS K1 F bs ts v K) (hn : K.nx ≤ K'.nx) (hk : ∀ x, x < K.nx → (x < K1.nx + 4 ∨ RowOf v x) → K'.ob x = K.ob x) : RS K1 F bs ts v K' := by
  have hnx := h.nx
  refine ⟨⟨Nat.le_trans h.ext.nx hn, fun x hx => (hk x (by omega) (.inl (by omega))).trans (h.ext.ob x hx)⟩, by omega, (hk _ (by omega) (.inl (by omega))).trans h.row, (hk _ (by omega) (.inl (by omega))).trans h.c4, (hk _ (by omega) (.inl (by omega))).trans h.c5, ?_, h.nr, h.len, h.b0, h.snd, h.tb, h.bt, h.cnt⟩
  rcases h.grw with g | ⟨b, kd, h0, h1, h2, h3, h4⟩
  · exact .inl g
  · exact .inr ⟨b, kd, h0, h1, Nat.lt_of_lt_of_le h2 hn, (hk b h2 (.inr ⟨_, _, _, h0⟩)).trans h3, h4⟩
theorem cf_set1 : ∀ {bs : List Bool} {i : Nat}, bs[i]? = some false → cf (bs.set i true) + 1 = cf bs
  | [], i, h => by simp at h
  | b :: bs, 0, h => by simp at h; subst h; simp [cf]
  | b :: bs, i + 1, h => by
    have := cf_set1 (bs := bs) (i := i) (by simpa using h)
    simp only [cf, List.set_cons_succ, List.count_cons] at this ⊢
    omega
theorem reach_round {K1 K : CH} {F : Fn'} {bs : List Bool} {ts : List Nat} {v w : Value} {l : Nat} {fr : Fr} (hR : RS K1 F bs ts v K) (hli : F.ins.length * 72 ≤ 140737488351232) (hl : K.ob l = .loop .ready none fr (26, 0)) (hl1 : K1.nx + 4 ≤ l) (hl2 : l < K.nx) (hl3 : ¬ RowOf v l)
    (f4 : fr 4 = .pointer (some ⟨K1.nx + 1, 0, none⟩)) (f5 : fr 5 = .pointer (some ⟨K1.nx + 3, 0, none⟩)) {t : Int} (ht : 0 ≤ t ∧ t < F.ins.length) (hr : Rch F t.toNat) :
    WpY (tblG Try.prog LG GG) l [.int .i64 t, w] K fun u K' => u = .bool true ∧ ∃ bs' ts' v', RS K1 F bs' ts' v' K' ∧ K'.ob l = .loop .ready none fr (26, 0) ∧ bs'[t.toNat]? = some true ∧ (∀ x : Nat, bs[x]? = some true → bs'[x]? = some true) ∧ (∃ e, ts' = ts ++ e) ∧
      Keeps (fun x => x = l ∨ x = K1.nx ∨ x = K1.nx + 3 ∨ RowOf v x) K K' ∧ ∀ x, RowOf v' x → RowOf v x ∨ K.nx ≤ x := by
  have hnx := hR.nx
  have hlen := hR.len
  have hrow := hR.row
  have hc4 := hR.c4
  have hc5 := hR.c5
  have hbt := bools_get (bs := bs) (i := t.toNat) (by omega)
  refine wpY_rG (by kernel_rfl) hl (by kernel_rfl) ?_; (conv in (rL _ _).1 => reduce); (conv in (rL _ _).2.1 => reduce); (conv in (rL _ _).2.2 => reduce); simp only [putPs, List.zip_cons_cons, List.zip_nil_right, List.zip_nil_left, List.foldl_cons, List.foldl_nil]
  cases hb : bs.getD t.toNat false with
  | true =>
    rw [hb] at hbt
    have hbt' : bs[t.toNat]? = some true := by
      have : t.toNat < bs.length := by omega
      simp only [List.getD, List.getElem?_eq_getElem this, Option.getD_some] at hb
      rw [List.getElem?_eq_getElem this, hb]
    repeat' (first | (simp (disch := first | omega | (decide +kernel) | (repeat (first | assumption | exact HExt.refl _ | (refine HExt.set ?_ (by first | omega | (simp only [new_nx, set_nx]; omega)) _) | (refine HExt.new ?_ _)))) only [↓r_seq, ↓r_block, ↓seqK_n, ↓seqK_r, ↓seqK_e, ↓blockK_n, ↓blockK_r, ↓blockK_e, ↓loopI_n, ↓loopI_r, ↓loopI_e, ↓funK_n, ↓funK_r, ↓r_reg, ↓r_drw, ↓r_cond, ↓condK_t, ↓condK_f, ↓i_cons, ↓eitemK, ↓e_nil, ↓e_cons, ↓e_grd, ↓egrd_tt, ↓egrd_ff, ↓egrd_tf, ↓egrd_ft, ↓egrd_s, ↓drwK, ↓r_drw2, ↓chk_nil, ↓chk_n, ↓chk_g, agL, agV_tt, agV_ff, agV_tf, agV_ft, agV_s, agE, accW_t, accW_f, isW, ↓i_grd, ↓grd_tt, ↓grd_ff, ↓grd_tf, ↓grd_ft, ↓grd_s, ↓itemK, ↓o_p, ↓o_l, ↓o_a, ↓o_w, ↓o_call, ↓o_callv, ↓callvK_f, ↓callvK_y, ↓r_range, ↓rangeV_f, ↓putF_get, ↓putF_none, ↓evF_t, ↓evF_c, ↓evF_f, new_nx, set_nx, new_get, set_get, optV_some, optW_some, optA_some, finK_some, ↓wpI_nil, ↓wpR_skip, ↓wpR_exit, ↓wpR_ret, getD_zero, getD_succ, b_add, b_sub, b_mul, b_quo, b_rem, b_eql, b_neq, b_lss, b_leq, b_gtr, b_geq, u_not, w_i64, w_u64, w_u8, t_div, t_mod, pop, lop, aop, wop, resL, resV, tupleV, akV, isVal, isCell, Value.cells, List.map_cons, List.map_nil, Bool.not_true, Bool.not_false, Option.map_some, ↓reduceIte, Nat.reduceEqDiff, Nat.reduceAdd, Int.reduceOfNat, Int.reduceNegSucc, decide_true, decide_false, reduceCtorEq, List.getElem?_cons_zero, List.getElem?_cons_succ, List.length_cons, List.length_nil, setc_0, setc_s, srcR_c, src_n, src_v, src_r, src_s, bnd, lenV, capV, Option.isSome_none, Option.isNone_none, Option.isSome_some, Option.isNone_some, Bool.or_false, Bool.or_true, Bool.true_or, Bool.false_or, List.take_succ_cons, List.take_zero, List.drop_succ_cons, List.drop_zero, List.cons_append, List.nil_append, List.append_nil, List.take_nil, List.drop_nil, List.all_cons, List.all_nil, Bool.and_true, Bool.true_and, Kd.isRo, List.size_toArray, List.getElem?_toArray, List.toList_toArray, bldV, Nat.reduceLeDiff, Nat.le_refl, u_neg, b_or0, Int.reduceMul, Int.reduceAdd, Int.reduceSub, Int.zero_mul, Int.zero_add, Int.add_zero, b_and3, b_and8, b_and24, b_shr2, b_shrs2, b_shr8, b_shr32, b_shr56, b_shl2, b_shl8, b_shl32, toNat_add1, toNat_add2, toNat_addn, toNat_add2n, Int.reduceToNat, maxLen_eq, zeros_one, zeros_two, zeros_three, take_mapl, List.length_map, List.map_append, List.length_append, beq_self_eq_true, beq_true, beq_false, Bool.false_xor, Bool.true_xor, Bool.xor_false, Bool.xor_true, dec_t, dec_f, ↓w_app, appS_some, appV_n, appV_v, appV_r, appR_c, appH_t, appH_f, Kd.isEx, Bool.false_and, partV, if_pos, if_neg, Nat.mul_one, Nat.one_mul, Nat.zero_add, Nat.add_zero, Int.toNat_natCast, true_and, and_true, f4, f5, roundK_some hl, hc4, hrow, hbt]) | (with_reducible refine condK_dec (fun _ => ?_) (fun _ => ?_)) | (with_reducible refine grd_dec (fun _ => ?_) (fun _ => ?_)) | (with_reducible refine egrd_dec (fun _ => ?_) (fun _ => ?_)))
    have hK5 : (K.set l (.loop .busy none fr (26, 0))).ob l = .loop .busy none fr (26, 0) := by rw [set_get, if_pos rfl]
    refine (endK_n hK5).2 ?_
    have hsame : ∀ x, ((K.set l (.loop .busy none fr (26, 0))).set l (.loop .ready none fr (26, 0))).ob x = K.ob x := fun x => by
      by_cases hx : x = l
      · rw [hx, set_get, if_pos rfl, hl]
      · rw [set_get, if_neg hx, set_get, if_neg hx]
    exact ⟨rfl, bs, ts, v, hR.mv (Nat.le_refl _) fun x _ _ => hsame x, by rw [set_get, if_pos rfl], hbt', fun x hx => hx, ⟨[], by simp⟩, ⟨Nat.le_refl _, fun x _ _ => hsame x⟩, fun x hx => .inl hx⟩
  | false =>
    rw [hb] at hbt
    have hbt' : bs[t.toNat]? = some false := by
      have : t.toNat < bs.length := by omega
      simp only [List.getD, List.getElem?_eq_getElem this, Option.getD_some] at hb
      rw [List.getElem?_eq_getElem this, hb]
    have hset := bools_set (bs := bs) (i := t.toNat) (b := true) (by omega)
    have hcnt := hR.cnt
    have hcf := cf_set1 hbt'
    have hnr := fun x (h : x = K1.nx ∨ x = K1.nx + 1 ∨ x = K1.nx + 3) => hR.nr x h
    repeat' (first | (simp (disch := first | omega | (decide +kernel) | (repeat (first | assumption | exact HExt.refl _ | (refine HExt.set ?_ (by first | omega | (simp only [new_nx, set_nx]; omega)) _) | (refine HExt.new ?_ _)))) only [↓r_seq, ↓r_block, ↓seqK_n, ↓seqK_r, ↓seqK_e, ↓blockK_n, ↓blockK_r, ↓blockK_e, ↓loopI_n, ↓loopI_r, ↓loopI_e, ↓funK_n, ↓funK_r, ↓r_reg, ↓r_drw, ↓r_cond, ↓condK_t, ↓condK_f, ↓i_cons, ↓eitemK, ↓e_nil, ↓e_cons, ↓e_grd, ↓egrd_tt, ↓egrd_ff, ↓egrd_tf, ↓egrd_ft, ↓egrd_s, ↓drwK, ↓r_drw2, ↓chk_nil, ↓chk_n, ↓chk_g, agL, agV_tt, agV_ff, agV_tf, agV_ft, agV_s, agE, accW_t, accW_f, isW, ↓i_grd, ↓grd_tt, ↓grd_ff, ↓grd_tf, ↓grd_ft, ↓grd_s, ↓itemK, ↓o_p, ↓o_l, ↓o_a, ↓o_w, ↓o_call, ↓o_callv, ↓callvK_f, ↓callvK_y, ↓r_range, ↓rangeV_f, ↓putF_get, ↓putF_none, ↓evF_t, ↓evF_c, ↓evF_f, new_nx, set_nx, new_get, set_get, optV_some, optW_some, optA_some, finK_some, ↓wpI_nil, ↓wpR_skip, ↓wpR_exit, ↓wpR_ret, getD_zero, getD_succ, b_add, b_sub, b_mul, b_quo, b_rem, b_eql, b_neq, b_lss, b_leq, b_gtr, b_geq, u_not, w_i64, w_u64, w_u8, t_div, t_mod, pop, lop, aop, wop, resL, resV, tupleV, akV, isVal, isCell, Value.cells, List.map_cons, List.map_nil, Bool.not_true, Bool.not_false, Option.map_some, ↓reduceIte, Nat.reduceEqDiff, Nat.reduceAdd, Int.reduceOfNat, Int.reduceNegSucc, decide_true, decide_false, reduceCtorEq, List.getElem?_cons_zero, List.getElem?_cons_succ, List.length_cons, List.length_nil, setc_0, setc_s, srcR_c, src_n, src_v, src_r, src_s, bnd, lenV, capV, Option.isSome_none, Option.isNone_none, Option.isSome_some, Option.isNone_some, Bool.or_false, Bool.or_true, Bool.true_or, Bool.false_or, List.take_succ_cons, List.take_zero, List.drop_succ_cons, List.drop_zero, List.cons_append, List.nil_append, List.append_nil, List.take_nil, List.drop_nil, List.all_cons, List.all_nil, Bool.and_true, Bool.true_and, Kd.isRo, List.size_toArray, List.getElem?_toArray, List.toList_toArray, bldV, Nat.reduceLeDiff, Nat.le_refl, u_neg, b_or0, Int.reduceMul, Int.reduceAdd, Int.reduceSub, Int.zero_mul, Int.zero_add, Int.add_zero, b_and3, b_and8, b_and24, b_shr2, b_shrs2, b_shr8, b_shr32, b_shr56, b_shl2, b_shl8, b_shl32, toNat_add1, toNat_add2, toNat_addn, toNat_add2n, Int.reduceToNat, maxLen_eq, zeros_one, zeros_two, zeros_three, take_mapl, List.length_map, List.map_append, List.length_append, beq_self_eq_true, beq_true, beq_false, Bool.false_xor, Bool.true_xor, Bool.xor_false, Bool.xor_true, dec_t, dec_f, ↓w_app, appS_some, appV_n, appV_v, appV_r, appR_c, appH_t, appH_f, Kd.isEx, Bool.false_and, partV, if_pos, if_neg, Nat.mul_one, Nat.one_mul, Nat.zero_add, Nat.add_zero, Int.toNat_natCast, true_and, and_true, f4, f5, roundK_some hl, hc4, hrow, hbt, hset, bools_len, hc5]) | (with_reducible refine condK_dec (fun _ => ?_) (fun _ => ?_)) | (with_reducible refine grd_dec (fun _ => ?_) (fun _ => ?_)) | (with_reducible refine egrd_dec (fun _ => ?_) (fun _ => ?_)))
    refine app2 (A := K1) (xs := natInts ts) (ys := [t]) ?_ (by first | omega | (simp only [new_nx, set_nx]; omega)) (by simp only [natInts, List.length_map, List.length_singleton]; omega) rfl rfl fun v3 K3 hg3 hn3 hk3 hr3 => ?_
    · rcases hR.grw with g | ⟨b, kd, h0, h1, h2, h3, h4⟩
      · exact .inl g
      · have hb1 : b ≠ l := fun e => hl3 (e ▸ ⟨_, _, _, h0⟩)
        have hb2 : b ≠ K1.nx := fun e => hnr _ (.inl rfl) (e ▸ ⟨_, _, _, h0⟩)
        exact .inr ⟨b, kd, h0, h1, (by first | omega | (simp only [new_nx, set_nx]; omega)), by rw [new_get, if_neg (by first | omega | (simp only [new_nx, set_nx]; omega)), set_get, if_neg hb2, set_get, if_neg hb1]; exact h3, h4⟩
    have hK3 : ∀ x, x < K.nx → ¬ RowOf v x → x ≠ l → x ≠ K1.nx → K3.ob x = K.ob x := fun x hx hv h1 h2 => by
      rw [hk3 x (by first | omega | (simp only [new_nx, set_nx]; omega)) (notRow hv), new_get, if_neg (by first | omega | (simp only [new_nx, set_nx]; omega)), set_get, if_neg h2, set_get, if_neg h1]
    have hc53 : K3.ob (K1.nx + 3) = .cells [v] 36 .ex := (hK3 _ (by omega) (hnr _ (.inr (.inr rfl))) (by omega) (by omega)).trans hc5
    have hl33 : K3.ob l = .loop .busy none fr (26, 0) := by
      rw [hk3 l (by first | omega | (simp only [new_nx, set_nx]; omega)) (notRow hl3), new_get, if_neg (by first | omega | (simp only [new_nx, set_nx]; omega)), set_get, if_neg (by omega), set_get, if_pos rfl]
    have hr33 : K3.ob K1.nx = .cells (bools (bs.set t.toNat true)) 4 .ex := by
      rw [hk3 _ (by first | omega | (simp only [new_nx, set_nx]; omega)) (notRow (hnr _ (.inl rfl))), new_get, if_neg (by first | omega | (simp only [new_nx, set_nx]; omega)), set_get, if_pos rfl]
    have hn3' : K.nx + 1 ≤ K3.nx := hn3
    rcases hg3 with ⟨h, _⟩ | ⟨b3, kd3, hv3, hb1, hb2, hb3, hkd3⟩
    · simp at h
    obtain ⟨n3, hn3e⟩ : ∃ n3, (natInts ts ++ [t]).length = n3 := ⟨_, rfl⟩
    rw [hn3e] at hv3
    subst hv3
    have hb3n : ∀ x, x < K.nx → ¬ RowOf v x → b3 ≠ x := fun x hx hv e => by
      rcases hr3 b3 _ _ _ rfl with h | ⟨o, n, c, h⟩
      · have : K.nx + 1 ≤ b3 := h
        omega
      · exact hv (e ▸ ⟨o, n, c, h⟩)
    repeat' (first | (simp (disch := first | omega | (decide +kernel) | (repeat (first | assumption | exact HExt.refl _ | (refine HExt.set ?_ (by first | omega | (simp only [new_nx, set_nx]; omega)) _) | (refine HExt.new ?_ _)))) only [↓r_seq, ↓r_block, ↓seqK_n, ↓seqK_r, ↓seqK_e, ↓blockK_n, ↓blockK_r, ↓blockK_e, ↓loopI_n, ↓loopI_r, ↓loopI_e, ↓funK_n, ↓funK_r, ↓r_reg, ↓r_drw, ↓r_cond, ↓condK_t, ↓condK_f, ↓i_cons, ↓eitemK, ↓e_nil, ↓e_cons, ↓e_grd, ↓egrd_tt, ↓egrd_ff, ↓egrd_tf, ↓egrd_ft, ↓egrd_s, ↓drwK, ↓r_drw2, ↓chk_nil, ↓chk_n, ↓chk_g, agL, agV_tt, agV_ff, agV_tf, agV_ft, agV_s, agE, accW_t, accW_f, isW, ↓i_grd, ↓grd_tt, ↓grd_ff, ↓grd_tf, ↓grd_ft, ↓grd_s, ↓itemK, ↓o_p, ↓o_l, ↓o_a, ↓o_w, ↓o_call, ↓o_callv, ↓callvK_f, ↓callvK_y, ↓r_range, ↓rangeV_f, ↓putF_get, ↓putF_none, ↓evF_t, ↓evF_c, ↓evF_f, new_nx, set_nx, new_get, set_get, optV_some, optW_some, optA_some, finK_some, ↓wpI_nil, ↓wpR_skip, ↓wpR_exit, ↓wpR_ret, getD_zero, getD_succ, b_add, b_sub, b_mul, b_quo, b_rem, b_eql, b_neq, b_lss, b_leq, b_gtr, b_geq, u_not, w_i64, w_u64, w_u8, t_div, t_mod, pop, lop, aop, wop, resL, resV, tupleV, akV, isVal, isCell, Value.cells, List.map_cons, List.map_nil, Bool.not_true, Bool.not_false, Option.map_some, ↓reduceIte, Nat.reduceEqDiff, Nat.reduceAdd, Int.reduceOfNat, Int.reduceNegSucc, decide_true, decide_false, reduceCtorEq, List.getElem?_cons_zero, List.getElem?_cons_succ, List.length_cons, List.length_nil, setc_0, setc_s, srcR_c, src_n, src_v, src_r, src_s, bnd, lenV, capV, Option.isSome_none, Option.isNone_none, Option.isSome_some, Option.isNone_some, Bool.or_false, Bool.or_true, Bool.true_or, Bool.false_or, List.take_succ_cons, List.take_zero, List.drop_succ_cons, List.drop_zero, List.cons_append, List.nil_append, List.append_nil, List.take_nil, List.drop_nil, List.all_cons, List.all_nil, Bool.and_true, Bool.true_and, Kd.isRo, List.size_toArray, List.getElem?_toArray, List.toList_toArray, bldV, Nat.reduceLeDiff, Nat.le_refl, u_neg, b_or0, Int.reduceMul, Int.reduceAdd, Int.reduceSub, Int.zero_mul, Int.zero_add, Int.add_zero, b_and3, b_and8, b_and24, b_shr2, b_shrs2, b_shr8, b_shr32, b_shr56, b_shl2, b_shl8, b_shl32, toNat_add1, toNat_add2, toNat_addn, toNat_add2n, Int.reduceToNat, maxLen_eq, zeros_one, zeros_two, zeros_three, take_mapl, List.length_map, List.map_append, List.length_append, beq_self_eq_true, beq_true, beq_false, Bool.false_xor, Bool.true_xor, Bool.xor_false, Bool.xor_true, dec_t, dec_f, ↓w_app, appS_some, appV_n, appV_v, appV_r, appR_c, appH_t, appH_f, Kd.isEx, Bool.false_and, partV, if_pos, if_neg, Nat.mul_one, Nat.one_mul, Nat.zero_add, Nat.add_zero, Int.toNat_natCast, true_and, and_true, f5, hc53]) | (with_reducible refine condK_dec (fun _ => ?_) (fun _ => ?_)) | (with_reducible refine grd_dec (fun _ => ?_) (fun _ => ?_)) | (with_reducible refine egrd_dec (fun _ => ?_) (fun _ => ?_)))
    have hK5 : (K3.set (K1.nx + 3) (.cells [.slice (some ⟨b3, 0, none⟩) n3 n3] 36 .ex)).ob l = .loop .busy none fr (26, 0) := by rw [set_get, if_neg (by omega)]; exact hl33
    refine (endK_n hK5).2 ?_
    have hfin : ∀ x, x ≠ l → x ≠ K1.nx + 3 → ((K3.set (K1.nx + 3) (.cells [.slice (some ⟨b3, 0, none⟩) n3 n3] 36 .ex)).set l (.loop .ready none fr (26, 0))).ob x = K3.ob x := fun x h1 h2 => by rw [set_get, if_neg h1, set_get, if_neg h2]
    have hrlt := fun x (hx : RowOf v x) => hR.row_lt hx
    have hbl : b3 ≠ l := hb3n l hl2 hl3
    have hb3x : b3 ≠ K1.nx + 3 := hb3n _ (by omega) (hnr _ (.inr (.inr rfl)))
    have htn : ((t.toNat : Nat) : Int) = t := by omega
    refine ⟨rfl, bs.set t.toNat true, ts ++ [t.toNat], .slice (some ⟨b3, 0, none⟩) n3 n3, ⟨⟨by have := hR.ext.nx; simp only [set_nx]; omega, fun x hx => ?_⟩, by simp only [set_nx]; omega, ?_, ?_, ?_, ?_, ?_, by simp [hlen], set_get_true hR.b0, snd_set hR.snd hr, ?_, ?_, ?_⟩, by rw [set_get, if_pos rfl], set_get_self (by omega), fun x hx => set_get_true hx, ⟨_, rfl⟩, ⟨by simp only [set_nx]; omega, fun x hx hne => ?_⟩, fun x hx => ?_⟩
    · rw [hfin x (by omega) (by omega), hK3 x (by omega) (fun h => by have := (hrlt x h).1; omega) (by omega) (by omega)]
      exact hR.ext.ob x hx
    · rw [hfin _ (by omega) (by omega)]; exact hr33
    · rw [hfin _ (by omega) (by omega), hK3 _ (by omega) (hnr _ (.inr (.inl rfl))) (by omega) (by omega)]; exact hc4
    · rw [set_get, if_neg (by omega), set_get, if_pos rfl]
    · refine .inr ⟨b3, kd3, ?_, hb1, by simp only [set_nx]; exact hb2, ?_, hkd3⟩
      · have : (natInts (ts ++ [t.toNat])).length = n3 := by rw [← hn3e]; simp [natInts]
        rw [this]
      · rw [hfin _ hbl hb3x, hb3]
        simp [natInts, htn]
    · rintro x hx ⟨o, n, c, e⟩
      cases e
      rcases hx with h | h | h <;> exact hb3n _ (by omega) (hnr _ (by omega)) h
    · intro x hx
      rcases List.mem_append.1 hx with hx | hx
      · exact set_get_true (hR.tb x hx)
      · simp at hx; subst hx; exact set_get_self (by omega)
    · intro x hx
      rw [List.getElem?_set] at hx
      split at hx
      · rename_i e; subst e; simp
      · exact List.mem_append_left _ (hR.bt x hx)
    · rw [List.length_append, List.length_singleton]; omega
    · simp only [not_or] at hne
      rw [hfin x hne.1 hne.2.2.1]
      exact hK3 x hx hne.2.2.2 hne.1 hne.2.1
    · obtain ⟨o, n, c, e⟩ := hx
      cases e
      rcases hr3 b3 _ _ _ rfl with h | ⟨o, n, c, h⟩
      · have : K.nx + 1 ≤ b3 := h
        exact .inr (by omega)
      · exact .inl ⟨o, n, c, h⟩
end Can
end Go.Proofs.Ytkomlcpofchjfaa
