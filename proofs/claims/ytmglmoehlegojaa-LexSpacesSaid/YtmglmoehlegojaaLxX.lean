/- Lex: the words; the program's Lex. -/
import Derived.Test.YtmglmoehlegojaaLxW
namespace Go.Proofs.Ytmglmoehlegojaa
namespace Can
open Go Go.RowKit
set_option linter.unusedSimpArgs false
set_option linter.unusedVariables false
set_option maxRecDepth 4000
def wE (ws : List (List UInt8)) : Array MapEntry := ((ws.zipIdx).map fun x => ({ key := .string (str x.1), val := .int .i64 1, born := x.2 } : MapEntry)).toArray
theorem mup_w {l n : Nat} {k : List UInt8} {ws : List (List UInt8)} {H : CH} (h1 : n = ws.length) (h2 : ws.contains k = false) : mupV 1 l (.string ⟨⟨k⟩⟩) (.int .i64 1) H (.map (wE ws) n) = some (undef, H.set l (.map (wE (ws ++ [k])) (n + 1))) := by
  subst h1
  have hk : k ∉ ws := by simpa using h2
  have hf : findK 1 (.string (str k)) (wE ws).toList 0 = some none := (findK_words (x := k) (ws := ws) (n := 0) (i := 0)).2 hk
  have hp : (wE ws).push { key := .string (str k), val := .int .i64 1, born := ws.length } = wE (ws ++ [k]) := by
    apply Array.ext'
    simp [wE, List.zipIdx_append]
  simp only [mupV, isKey, isVal, and_self, if_true]
  rw [show (Value.string ⟨⟨k⟩⟩) = .string (str k) from rfl, hf, ← hp]
theorem mup_0 {l : Nat} {k : List UInt8} {H : CH} : mupV 1 l (.string ⟨⟨k⟩⟩) (.int .i64 1) H (.map #[] 0) = some (undef, H.set l (.map (wE [k]) 1)) := mup_w (ws := []) rfl rfl
set_option maxHeartbeats 2000000 in
theorem words_wp (H : CH) : WpF (tblG Try.prog LG GG) 18 [] H fun v K => v = .map (some H.nx) ∧ K.ob H.nx = .map wordsM 31 ∧ K.nx = H.nx + 1 ∧ ∀ l, l < H.nx → K.ob l = H.ob l := by
  refine wpF_rG (by rfl) (by kernel_rfl) ?_; (conv in (rF _ _).body => reduce); (conv in (rF _ _).res => reduce)
  repeat' (first | (simp (disch := first | omega | (decide +kernel) | (repeat first | assumption | exact HExt.refl _ | refine HExt.set ?_ (by first | omega | (simp only [new_nx, set_nx]; omega)) _ | refine HExt.new ?_ _)) only [↓r_seq, ↓r_block, ↓seqK_n, ↓seqK_r, ↓seqK_e, ↓blockK_n, ↓blockK_r, ↓blockK_e, ↓loopI_n, ↓loopI_r, ↓loopI_e, ↓funK_n, ↓funK_r, ↓r_reg, ↓r_drw, ↓r_cond, ↓condK_t, ↓condK_f, ↓i_cons, ↓eitemK, ↓e_nil, ↓e_cons, ↓e_grd, ↓egrd_tt, ↓egrd_ff, ↓egrd_tf, ↓egrd_ft, ↓egrd_s, ↓drwK, ↓r_drw2, ↓chk_nil, ↓chk_n, ↓chk_g, agL, agV_tt, agV_ff, agV_tf, agV_ft, agV_s, agE, accW_t, accW_f, isW, ↓i_grd, ↓grd_tt, ↓grd_ff, ↓grd_tf, ↓grd_ft, ↓grd_s, ↓itemK, ↓o_p, ↓o_l, ↓o_a, ↓o_w, ↓o_call, ↓o_callv, ↓callvK_f, ↓callvK_y, ↓r_range, ↓rangeV_f, ↓putF_get, ↓putF_none, ↓evF_t, ↓evF_c, ↓evF_f, new_nx, set_nx, new_get, set_get, optV_some, optW_some, optA_some, finK_some, ↓wpI_nil, ↓wpR_skip, ↓wpR_exit, ↓wpR_ret, getD_zero, getD_succ, b_add, b_sub, b_mul, b_quo, b_rem, b_eql, b_neq, b_lss, b_leq, b_gtr, b_geq, u_not, w_i64, w_u64, w_u8, t_div, t_mod, pop, lop, aop, wop, resL, resV, tupleV, akV, isVal, isCell, Value.cells, List.map_cons, List.map_nil, Bool.not_true, Bool.not_false, Option.map_some, ↓reduceIte, Nat.reduceEqDiff, Nat.reduceAdd, Int.reduceOfNat, Int.reduceNegSucc, decide_true, decide_false, reduceCtorEq, List.getElem?_cons_zero, List.getElem?_cons_succ, List.length_cons, List.length_nil, setc_0, setc_s, srcR_c, src_n, src_v, src_r, src_s, bnd, lenV, capV, Option.isSome_none, Option.isNone_none, Option.isSome_some, Option.isNone_some, Bool.or_false, Bool.or_true, Bool.true_or, Bool.false_or, List.take_succ_cons, List.take_zero, List.drop_succ_cons, List.drop_zero, List.cons_append, List.nil_append, List.append_nil, List.take_nil, List.drop_nil, List.all_cons, List.all_nil, Bool.and_true, Bool.true_and, Kd.isRo, List.size_toArray, List.getElem?_toArray, List.toList_toArray, bldV, Nat.reduceLeDiff, Nat.le_refl, u_neg, b_or0, Int.reduceMul, Int.reduceAdd, Int.reduceSub, Int.zero_mul, Int.zero_add, Int.add_zero, b_and3, b_and8, b_and24, b_shr2, b_shrs2, b_shr8, b_shr32, b_shr56, b_shl2, b_shl8, b_shl32, toNat_add1, toNat_add2, toNat_addn, toNat_add2n, Int.reduceToNat, maxLen_eq, zeros_one, zeros_two, zeros_three, take_mapl, List.length_map, List.map_append, List.length_append, beq_self_eq_true, beq_true, beq_false, Bool.false_xor, Bool.true_xor, Bool.xor_false, Bool.xor_true, dec_t, dec_f, ↓w_app, appS_some, appV_n, appV_v, appV_r, appH_t, appH_f, Kd.isEx, Bool.false_and, partV, if_pos, if_neg, Nat.mul_one, Nat.one_mul, Nat.zero_add, Nat.add_zero, Int.toNat_natCast, true_and, and_true, mup_0, mup_w, CH.set_set]) | (with_reducible first | refine condK_dec (fun _ => ?_) fun _ => ?_ | refine grd_dec (fun _ => ?_) fun _ => ?_ | refine egrd_dec (fun _ => ?_) fun _ => ?_))
  exact ⟨rfl, fun l hl => by rw [if_neg (by omega)]⟩
end Can
end Go.Proofs.Ytmglmoehlegojaa
