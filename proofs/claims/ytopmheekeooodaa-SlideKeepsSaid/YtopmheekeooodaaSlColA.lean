/- Slide: the rounds of Collect. -/
import Derived.Test.YtopmheekeooodaaSlCol
import Derived.Test.YtopmheekeooodaaSlReach
namespace Go.Proofs.Ytopmheekeooodaa
namespace Can
open Go Go.RowKit
set_option linter.unusedSimpArgs false
set_option linter.unusedVariables false
set_option maxRecDepth 4000
theorem nto_lt {ws roots : List Int} {tn : Nat} {ls : List Nat} (hF : Form ws tn ls) {a : Nat} (ha : a ∈ ls) : nto ws roots ls a < 1048576 := by
  have := nto_le (roots := roots) hF ha
  have := obj_lt2 hF ha
  omega
theorem Pk_lt {ws roots : List Int} {tn : Nat} {ls : List Nat} (hF : Form ws tn ls) {k : Nat} (hk : k ≤ ls.length) : Pk ws roots ls k ≤ 1048576 := by
  have := Pk_mono (ws := ws) (roots := roots) (ls := ls) hk
  have := Pk_top (roots := roots) hF
  have := hF.top
  have := hF.len
  omega
/-- A round that says where an object goes. -/
theorem colA_round {K : CH} {ws roots : List Int} {tn n c b pw pto l k a : Nat} {ls : List Nat} {kd : Kd} {fr : Fr} {f : Nat → Int} (hF : Form ws tn ls) (hn : n = ws.length) (hl : K.ob l = .loop .ready none fr (10, 0)) (hrow : K.ob b = .cells (fnW n f) 42 kd) (hro : kd.isRo = false) (hS : Sp ws tn ls f (GA ws roots ls k))
    (hpw : K.ob pw = .cells [.slice (some ⟨b, 0, none⟩) n c] 22 .ex) (hpt : K.ob pto = .cells [.int .i64 (Pk ws roots ls k : Int)] 3 .ex) (d1 : l ≠ b) (d2 : l ≠ pw) (d3 : l ≠ pto) (d4 : b ≠ pw) (d5 : b ≠ pto) (d6 : pw ≠ pto) (f6 : fr 6 = .pointer (some ⟨pw, 0, none⟩)) (f7 : fr 7 = .pointer (some ⟨pto, 0, none⟩)) (ha : ls[k]? = some a) :
    WpY (tblG Try.prog LG GG) l [.int .i64 (a : Int)] K fun u K' => u = .bool true ∧ K'.nx = K.nx ∧ (∀ x, x ≠ b → x ≠ pto → K'.ob x = K.ob x) ∧ K'.ob pto = .cells [.int .i64 (Pk ws roots ls (k + 1) : Int)] 3 .ex ∧ ∃ f', K'.ob b = .cells (fnW n f') 42 kd ∧ Sp ws tn ls f' (GA ws roots ls (k + 1)) := by
  have ham : a ∈ ls := List.mem_of_getElem? ha
  have hb := obj_lt2 hF ham
  have hlen := hF.len
  have hsz := hF.ch.mem a ham
  have hfa : f a = mkF ws roots ls a := by
    have := hS.ob a ham 0 (by omega)
    rw [Nat.add_zero] at this
    rw [this, GA_head ham]
  have hga := fnW_get (n := n) (f := f) (i := a) (by omega)
  rw [hfa] at hga
  have hbit := mkF_in (roots := roots) hF ham
  have hms := mkF_sz (roots := roots) hF ham
  have hnt := nto_at (ws := ws) (roots := roots) hF.ch.nodup ha
  have hkl : k < ls.length := (List.getElem?_eq_some_iff.1 ha).1
  have hpk := Pk_lt (roots := roots) hF (Nat.le_of_lt hkl)
  have hpk2 := Pk_lt (roots := roots) hF (show k + 1 ≤ ls.length from hkl)
  have hsame : ∀ x, ((K.set l (.loop .busy none fr (10, 0))).set l (.loop .ready none fr (10, 0))).ob x = K.ob x := fun x => by
    by_cases hx : x = l
    · rw [hx, set_get, if_pos rfl, hl]
    · rw [set_get, if_neg hx, set_get, if_neg hx]
  refine wpY_rG (by kernel_rfl) hl (by kernel_rfl) ?_; (conv in (rL _ _).1 => reduce); (conv in (rL _ _).2.1 => reduce); (conv in (rL _ _).2.2 => reduce); simp only [putPs, List.zip_cons_cons, List.zip_nil_right, List.zip_nil_left, List.foldl_cons, List.foldl_nil]
  by_cases hr : Rc ws roots a
  case neg =>
    have hand := hbit.2 hr
    repeat' (first | (simp (disch := first | omega | (decide +kernel) | (repeat first | assumption | exact HExt.refl _ | refine HExt.set ?_ (by first | omega | (simp only [new_nx, set_nx]; omega)) _ | refine HExt.new ?_ _)) only [↓RD, RU, accW_t, accW_f, isW, ↓putF_get, ↓putF_none, ↓evF_t, ↓evF_c, ↓evF_f, new_nx, set_nx, new_get, set_get, getD_zero, getD_succ, u_not, pop, lop, aop, wop, resL, resV, tupleV, akV, isVal, isCell, Value.cells, ρ0, ρ1, ρ2, ρ3, ρ4, ↓reduceIte, Nat.reduceEqDiff, Nat.reduceAdd, Int.reduceOfNat, Int.reduceNegSucc, reduceCtorEq, ρ5, ρ6, ρ7, ρ8, srcR_c, src_n, src_v, src_s, bnd, lenV, capV, ρ9, ρ10, ρ11, ρ12, ρ13, ρ14, ρ15, ρ16, ρ17, ρ18, ρ19, ρ20, ρ21, ρ22, ρ23, ρ24, Kd.isRo, ρ25, ρ26, bldV, Nat.reduceLeDiff, Int.reduceMul, Int.reduceAdd, Int.reduceSub, Int.reduceToNat, maxLen_eq, zeros_one, appS_some, appV_n, appV_v, appH_t, appH_f, Kd.isEx, ρ27, partV, CH.set_set, lkV, lkR, isKey, mupV, nxtV, ρ28, ρ29, f6, f7, roundK_some hl, hrow, hpw, hga, hand]) | (with_reducible first | refine condK_dec (fun _ => ?_) fun _ => ?_ | refine grd_dec (fun _ => ?_) fun _ => ?_ | refine egrd_dec (fun _ => ?_) fun _ => ?_))
    have hK5 : (K.set l (.loop .busy none fr (10, 0))).ob l = .loop .busy none fr (10, 0) := by rw [set_get, if_pos rfl]
    refine (endK_n hK5).2 ?_
    exact ⟨rfl, rfl, fun x _ _ => hsame x, by rw [hsame, Pk_no ha hr]; exact hpt, f, (hsame b).trans hrow, hS.congr fun b hb j _ => (GA_step hF.ch.nodup ha b hb j).2 hr⟩
  case pos =>
    have hand := hbit.1 hr
    have hs1 := fnW_set (n := n) (f := f) (i := a + 1) (x := (Pk ws roots ls k : Int)) (by omega)
    have hga2 := fnW_get (n := n) (f := upF f (a + 1) (Pk ws roots ls k : Int)) (i := a) (by omega)
    have e1 : upF f (a + 1) (Pk ws roots ls k : Int) a = mkF ws roots ls a := by unfold upF; rw [if_neg (by omega), hfa]
    rw [e1] at hga2
    have hpy := Pk_yes (ws := ws) (roots := roots) ha hr
    have hm3 := hms.2.2.1
    repeat' (first | (simp (disch := first | omega | (decide +kernel) | (repeat first | assumption | exact HExt.refl _ | refine HExt.set ?_ (by first | omega | (simp only [new_nx, set_nx]; omega)) _ | refine HExt.new ?_ _)) only [↓r_seq, ↓r_block, ↓seqK_n, ↓seqK_r, ↓seqK_e, ↓blockK_n, ↓blockK_r, ↓blockK_e, ↓loopI_n, ↓loopI_r, ↓loopI_e, ↓funK_n, ↓funK_r, ↓r_reg, ↓r_drw, ↓r_cond, ↓condK_t, ↓condK_f, ↓i_cons, ↓eitemK, ↓e_nil, ↓e_cons, ↓e_grd, ↓egrd_tt, ↓egrd_ff, ↓egrd_tf, ↓egrd_ft, ↓egrd_s, ↓drwK, ↓r_drw2, ↓chk_nil, ↓chk_n, ↓chk_g, agL, agV_tt, agV_ff, agV_tf, agV_ft, agV_s, agE, accW_t, accW_f, isW, ↓i_grd, ↓grd_tt, ↓grd_ff, ↓grd_tf, ↓grd_ft, ↓grd_s, ↓itemK, ↓o_p, ↓o_l, ↓o_a, ↓o_w, ↓o_call, ↓o_callv, ↓callvK_f, ↓callvK_y, ↓r_range, ↓rangeV_f, ↓putF_get, ↓putF_none, ↓evF_t, ↓evF_c, ↓evF_f, new_nx, set_nx, new_get, set_get, optV_some, optW_some, optA_some, finK_some, ↓wpI_nil, ↓wpR_skip, ↓wpR_exit, ↓wpR_ret, getD_zero, getD_succ, b_add, b_sub, b_mul, b_quo, b_rem, b_eql, b_neq, b_lss, b_leq, b_gtr, b_geq, u_not, w_i64, w_u64, w_u8, t_div, t_mod, pop, lop, aop, wop, resL, resV, tupleV, akV, isVal, isCell, Value.cells, List.map_cons, List.map_nil, Bool.not_true, Bool.not_false, Option.map_some, ↓reduceIte, Nat.reduceEqDiff, Nat.reduceAdd, Int.reduceOfNat, Int.reduceNegSucc, decide_true, decide_false, reduceCtorEq, List.getElem?_cons_zero, List.getElem?_cons_succ, List.length_cons, List.length_nil, setc_0, setc_s, srcR_c, src_n, src_v, src_r, src_s, bnd, lenV, capV, Option.isSome_none, Option.isNone_none, Option.isSome_some, Option.isNone_some, Bool.or_false, Bool.or_true, Bool.true_or, Bool.false_or, List.take_succ_cons, List.take_zero, List.drop_succ_cons, List.drop_zero, List.cons_append, List.nil_append, List.append_nil, List.take_nil, List.drop_nil, List.all_cons, List.all_nil, Bool.and_true, Bool.true_and, List.size_toArray, List.getElem?_toArray, List.toList_toArray, bldV, Nat.reduceLeDiff, Nat.le_refl, u_neg, b_or0, Int.reduceMul, Int.reduceAdd, Int.reduceSub, Int.zero_mul, Int.zero_add, Int.add_zero, b_and3, b_and8, b_and24, b_shr2, b_shrs2, b_shr8, b_shr32, b_shr56, b_shl2, b_shl8, b_shl32, toNat_add1, toNat_add2, toNat_addn, toNat_add2n, Int.reduceToNat, maxLen_eq, zeros_one, zeros_two, zeros_three, take_mapl, List.length_map, List.map_append, List.length_append, beq_self_eq_true, beq_true, beq_false, Bool.false_xor, Bool.true_xor, Bool.xor_false, Bool.xor_true, dec_t, dec_f, ↓w_app, appS_some, appV_n, appV_v, appV_r, appR_c, appH_t, appH_f, Kd.isEx, Bool.false_and, partV, if_pos, if_neg, Nat.mul_one, Nat.one_mul, Nat.zero_add, Nat.add_zero, Int.toNat_natCast, true_and, and_true, f6, f7, roundK_some hl, hrow, hro, hpw, hga, hand, hpt, fnW_len, ↓hs1, hga2, size_iff, hm3]) | (with_reducible first | refine condK_dec (fun _ => ?_) fun _ => ?_ | refine grd_dec (fun _ => ?_) fun _ => ?_ | refine egrd_dec (fun _ => ?_) fun _ => ?_))
    refine (endK_n (by simp only [set_get]; rw [if_neg d3, if_neg d1]; exact if_pos trivial)).2 ?_
    have hup := hS.up hF ham (j := 1) (by omega) (Pk ws roots ls k : Int)
    refine ⟨rfl, rfl, fun x h1 h2 => ?_, ?_, _, ?_, hup.congr fun b hb j _ => ?_⟩
    · by_cases hx : x = l
      · rw [hx, set_get, if_pos rfl, hl]
      · simp only [set_get]; rw [if_neg hx, if_neg h2, if_neg h1, if_neg hx]
    · simp only [set_get]; rw [if_neg d3.symm, hpy, Int.natCast_add]; exact if_pos trivial
    · simp only [set_get]; rw [if_neg d1.symm, if_neg d5]; exact if_pos trivial
    · rw [← hnt]; exact (GA_step hF.ch.nodup ha b hb j).1 hr
/-- The closure that turns a word. -/
theorem turn_wp {K : CH} {ws roots : List Int} {tn n c b pw : Nat} {ls : List Nat} {kd : Kd} {f : Nat → Int} {w : Int} (hF : Form ws tn ls) (hn : n = ws.length) (hrow : K.ob b = .cells (fnW n f) 42 kd) (hf : ∀ a ∈ ls, Rc ws roots a → f (a + 1) = (nto ws roots ls a : Int))
    (hpw : K.ob pw = .cells [.slice (some ⟨b, 0, none⟩) n c] 22 .ex) (h0 : 0 ≤ w) (h1 : w < 18446744073709551616) (hk : kindF w ≠ 3) (hr : kindF w = 0 → adr w ∈ ls ∧ Rc ws roots (adr w)) :
    WpF (tblG Try.prog LG GG) 19 [.int .u64 w, .pointer (some ⟨pw, 0, none⟩)] K fun v K' => v = .int .u64 (turnF ws roots ls w) ∧ K' = K := by
  have hlen := hF.len
  refine wpF_rG (by rfl) (by kernel_rfl) ?_; (conv in (rF _ _).body => reduce); (conv in (rF _ _).res => reduce)
  by_cases hz : kindF w = 0
  · obtain ⟨hm, hrc⟩ := hr hz
    have hb := obj_lt2 hF hm
    have hnl := nto_lt (roots := roots) hF hm
    have ha : adI w = (adr w : Int) := by rw [adI_of h0 h1 hk, if_pos hz]
    have hg := fnW_get (n := n) (f := f) (i := adr w + 1) (by omega)
    rw [hf _ hm hrc] at hg
    have ht : turnF ws roots ls w = (nto ws roots ls (adr w) : Int) * 4 := by unfold turnF; rw [if_pos hz]; omega
    rw [ht]
    repeat' (first | (simp (disch := first | omega | (decide +kernel) | (repeat first | assumption | exact HExt.refl _ | refine HExt.set ?_ (by first | omega | (simp only [new_nx, set_nx]; omega)) _ | refine HExt.new ?_ _)) only [↓RD, RU, accW_t, accW_f, isW, ↓putF_get, ↓putF_none, ↓evF_t, ↓evF_c, ↓evF_f, new_nx, set_nx, new_get, set_get, getD_zero, getD_succ, u_not, pop, lop, aop, wop, resL, resV, tupleV, akV, isVal, isCell, Value.cells, ρ0, ρ1, ρ2, ρ3, ρ4, ↓reduceIte, Nat.reduceEqDiff, Nat.reduceAdd, Int.reduceOfNat, Int.reduceNegSucc, reduceCtorEq, ρ5, ρ6, ρ7, ρ8, srcR_c, src_n, src_v, src_s, bnd, lenV, capV, ρ9, ρ10, ρ11, ρ12, ρ13, ρ14, ρ15, ρ16, ρ17, ρ18, ρ19, ρ20, ρ21, ρ22, ρ23, ρ24, Kd.isRo, ρ25, ρ26, bldV, Nat.reduceLeDiff, Int.reduceMul, Int.reduceAdd, Int.reduceSub, Int.reduceToNat, maxLen_eq, zeros_one, appS_some, appV_n, appV_v, appH_t, appH_f, Kd.isEx, ρ27, partV, CH.set_set, lkV, lkR, isKey, mupV, nxtV, ρ28, ρ29, address_iff, ha, hpw, hrow, hg]) | (with_reducible first | refine condK_dec (fun _ => ?_) fun _ => ?_ | refine grd_dec (fun _ => ?_) fun _ => ?_ | refine egrd_dec (fun _ => ?_) fun _ => ?_))
  · have ha : adI w = 0 := by rw [adI_of h0 h1 hk, if_neg hz]
    have ht : turnF ws roots ls w = w := by unfold turnF; rw [if_neg hz]
    rw [ht]
    repeat' (first | (simp (disch := first | omega | (decide +kernel) | (repeat first | assumption | exact HExt.refl _ | refine HExt.set ?_ (by first | omega | (simp only [new_nx, set_nx]; omega)) _ | refine HExt.new ?_ _)) only [↓RD, RU, accW_t, accW_f, isW, ↓putF_get, ↓putF_none, ↓evF_t, ↓evF_c, ↓evF_f, new_nx, set_nx, new_get, set_get, getD_zero, getD_succ, u_not, pop, lop, aop, wop, resL, resV, tupleV, akV, isVal, isCell, Value.cells, ρ0, ρ1, ρ2, ρ3, ρ4, ↓reduceIte, Nat.reduceEqDiff, Nat.reduceAdd, Int.reduceOfNat, Int.reduceNegSucc, reduceCtorEq, ρ5, ρ6, ρ7, ρ8, srcR_c, src_n, src_v, src_s, bnd, lenV, capV, ρ9, ρ10, ρ11, ρ12, ρ13, ρ14, ρ15, ρ16, ρ17, ρ18, ρ19, ρ20, ρ21, ρ22, ρ23, ρ24, Kd.isRo, ρ25, ρ26, bldV, Nat.reduceLeDiff, Int.reduceMul, Int.reduceAdd, Int.reduceSub, Int.reduceToNat, maxLen_eq, zeros_one, appS_some, appV_n, appV_v, appH_t, appH_f, Kd.isEx, ρ27, partV, CH.set_set, lkV, lkR, isKey, mupV, nxtV, ρ28, ρ29, address_iff, ha]) | (with_reducible first | refine condK_dec (fun _ => ?_) fun _ => ?_ | refine grd_dec (fun _ => ?_) fun _ => ?_ | refine egrd_dec (fun _ => ?_) fun _ => ?_))
theorem turnF_u64 {ws roots : List Int} {tn : Nat} {ls : List Nat} (hF : Form ws tn ls) {w : Int} (h0 : 0 ≤ w) (h1 : w < 18446744073709551616) (hr : kindF w = 0 → adr w ∈ ls ∧ Rc ws roots (adr w)) : 0 ≤ turnF ws roots ls w ∧ turnF ws roots ls w < 18446744073709551616 := by
  unfold turnF
  split
  · rename_i hz
    have := nto_lt (roots := roots) hF (hr hz).1
    omega
  · exact ⟨h0, h1⟩
/-- A round that turns one tagged word. -/
theorem colB_round {K : CH} {ws roots : List Int} {tn n c b pw pt l k m a : Nat} {ls : List Nat} {kd : Kd} {fr : Fr} {f : Nat → Int} (hF : Form ws tn ls) (hu : ∀ x ∈ ws, 0 ≤ x ∧ x < 18446744073709551616) (hn : n = ws.length) (hl : K.ob l = .loop .ready none fr (10, 2)) (hrow : K.ob b = .cells (fnW n f) 42 kd) (hro : kd.isRo = false) (hS : Sp ws tn ls f (GB ws roots ls k m))
    (hpw : K.ob pw = .cells [.slice (some ⟨b, 0, none⟩) n c] 22 .ex) (hpt : K.ob pt = .cells [.func (.func 19) #[] #[.pointer (some ⟨pw, 0, none⟩)]] 48 .ex) (d1 : l ≠ b) (d2 : l ≠ pw) (d3 : l ≠ pt) (d4 : b ≠ pw) (d5 : b ≠ pt) (f6 : fr 6 = .pointer (some ⟨pw, 0, none⟩)) (f9 : fr 9 = .pointer (some ⟨pt, 0, none⟩)) (ha : ls[k]? = some a) (hr : Rc ws roots a) (hm : m < tgN ws a) :
    WpY (tblG Try.prog LG GG) l [.int .i64 ((a : Int) + 2 + (m : Int))] K fun u K' => u = .bool true ∧ K'.nx = K.nx ∧ (∀ x, x ≠ b → K'.ob x = K.ob x) ∧ ∃ f', K'.ob b = .cells (fnW n f') 42 kd ∧ Sp ws tn ls f' (GB ws roots ls k (m + 1)) := by
  have ham : a ∈ ls := List.mem_of_getElem? ha
  have hb := obj_lt2 hF ham
  have hlen := hF.len
  have hsz := isObj_sz (hF.ob a ham)
  have htop := hF.top
  have hkk := hF.fld a ham m hm
  have hwk := wd_nonneg hu (a + 2 + m)
  have hfa : f (a + 2 + m) = wd ws (a + 2 + m) := by
    have := hS.ob a ham (2 + m) (by omega)
    rw [GB_todo ha hF.ch.nodup, ← Nat.add_assoc] at this
    exact this
  have hg := fnW_get (n := n) (f := f) (i := a + 2 + m) (by omega)
  rw [hfa] at hg
  have hone : ∀ x ∈ ls, Rc ws roots x → f (x + 1) = (nto ws roots ls x : Int) := fun x hx hrx => by
    rw [hS.ob x hx 1 (by have := hF.ch.mem x hx; omega), GB_one hx hrx]
  have hs1 := fnW_set (n := n) (f := f) (i := a + 2 + m) (x := turnF ws roots ls (wd ws (a + 2 + m))) (by omega)
  refine wpY_rG (by kernel_rfl) hl (by kernel_rfl) ?_; (conv in (rL _ _).1 => reduce); (conv in (rL _ _).2.1 => reduce); (conv in (rL _ _).2.2 => reduce); simp only [putPs, List.zip_cons_cons, List.zip_nil_right, List.zip_nil_left, List.foldl_cons, List.foldl_nil]
  repeat' (first | (simp (disch := first | omega | (decide +kernel) | (repeat first | assumption | exact HExt.refl _ | refine HExt.set ?_ (by first | omega | (simp only [new_nx, set_nx]; omega)) _ | refine HExt.new ?_ _)) only [↓r_seq, ↓r_block, ↓seqK_n, ↓seqK_r, ↓seqK_e, ↓blockK_n, ↓blockK_r, ↓blockK_e, ↓loopI_n, ↓loopI_r, ↓loopI_e, ↓funK_n, ↓funK_r, ↓r_reg, ↓r_drw, ↓r_cond, ↓condK_t, ↓condK_f, ↓i_cons, ↓eitemK, ↓e_nil, ↓e_cons, ↓e_grd, ↓egrd_tt, ↓egrd_ff, ↓egrd_tf, ↓egrd_ft, ↓egrd_s, ↓drwK, ↓r_drw2, ↓chk_nil, ↓chk_n, ↓chk_g, agL, agV_tt, agV_ff, agV_tf, agV_ft, agV_s, agE, accW_t, accW_f, isW, ↓i_grd, ↓grd_tt, ↓grd_ff, ↓grd_tf, ↓grd_ft, ↓grd_s, ↓itemK, ↓o_p, ↓o_l, ↓o_a, ↓o_w, ↓o_call, ↓o_callv, ↓callvK_f, ↓callvK_y, ↓r_range, ↓rangeV_f, ↓putF_get, ↓putF_none, ↓evF_t, ↓evF_c, ↓evF_f, new_nx, set_nx, new_get, set_get, optV_some, optW_some, optA_some, finK_some, ↓wpI_nil, ↓wpR_skip, ↓wpR_exit, ↓wpR_ret, getD_zero, getD_succ, b_add, b_sub, b_mul, b_quo, b_rem, b_eql, b_neq, b_lss, b_leq, b_gtr, b_geq, u_not, w_i64, w_u64, w_u8, t_div, t_mod, pop, lop, aop, wop, resL, resV, tupleV, akV, isVal, isCell, Value.cells, List.map_cons, List.map_nil, Bool.not_true, Bool.not_false, Option.map_some, ↓reduceIte, Nat.reduceEqDiff, Nat.reduceAdd, Int.reduceOfNat, Int.reduceNegSucc, decide_true, decide_false, reduceCtorEq, List.getElem?_cons_zero, List.getElem?_cons_succ, List.length_cons, List.length_nil, setc_0, setc_s, srcR_c, src_n, src_v, src_r, src_s, bnd, lenV, capV, Option.isSome_none, Option.isNone_none, Option.isSome_some, Option.isNone_some, Bool.or_false, Bool.or_true, Bool.true_or, Bool.false_or, List.take_succ_cons, List.take_zero, List.drop_succ_cons, List.drop_zero, List.cons_append, List.nil_append, List.append_nil, List.take_nil, List.drop_nil, List.all_cons, List.all_nil, Bool.and_true, Bool.true_and, List.size_toArray, List.getElem?_toArray, List.toList_toArray, bldV, Nat.reduceLeDiff, Nat.le_refl, u_neg, b_or0, Int.reduceMul, Int.reduceAdd, Int.reduceSub, Int.zero_mul, Int.zero_add, Int.add_zero, b_and3, b_and8, b_and24, b_shr2, b_shrs2, b_shr8, b_shr32, b_shr56, b_shl2, b_shl8, b_shl32, toNat_add1, toNat_add2, toNat_addn, toNat_add2n, Int.reduceToNat, maxLen_eq, zeros_one, zeros_two, zeros_three, take_mapl, List.length_map, List.map_append, List.length_append, beq_self_eq_true, beq_true, beq_false, Bool.false_xor, Bool.true_xor, Bool.xor_false, Bool.xor_true, dec_t, dec_f, ↓w_app, appS_some, appV_n, appV_v, appV_r, appR_c, appH_t, appH_f, Kd.isEx, Bool.false_and, partV, if_pos, if_neg, Nat.mul_one, Nat.one_mul, Nat.zero_add, Nat.add_zero, Int.toNat_natCast, true_and, and_true, f6, f9, roundK_some hl, hrow, hro, hpw, hpt, hg, toNat_add2n]) | (with_reducible first | refine condK_dec (fun _ => ?_) fun _ => ?_ | refine grd_dec (fun _ => ?_) fun _ => ?_ | refine egrd_dec (fun _ => ?_) fun _ => ?_))
  refine (turn_wp (K := K.set l (.loop .busy none fr (10, 2))) hF hn (by rw [set_get, if_neg d1.symm]; exact hrow) hone (by rw [set_get, if_neg d2.symm]; exact hpw) hwk.1 hwk.2 hkk.1 fun h0 => ⟨hkk.2 h0, .step hr hm h0⟩).mono fun v K' ⟨hv, hK'⟩ => ?_
  subst hv hK'
  repeat' (first | (simp (disch := first | omega | (decide +kernel) | (repeat first | assumption | exact HExt.refl _ | refine HExt.set ?_ (by first | omega | (simp only [new_nx, set_nx]; omega)) _ | refine HExt.new ?_ _)) only [↓r_seq, ↓r_block, ↓seqK_n, ↓seqK_r, ↓seqK_e, ↓blockK_n, ↓blockK_r, ↓blockK_e, ↓loopI_n, ↓loopI_r, ↓loopI_e, ↓funK_n, ↓funK_r, ↓r_reg, ↓r_drw, ↓r_cond, ↓condK_t, ↓condK_f, ↓i_cons, ↓eitemK, ↓e_nil, ↓e_cons, ↓e_grd, ↓egrd_tt, ↓egrd_ff, ↓egrd_tf, ↓egrd_ft, ↓egrd_s, ↓drwK, ↓r_drw2, ↓chk_nil, ↓chk_n, ↓chk_g, agL, agV_tt, agV_ff, agV_tf, agV_ft, agV_s, agE, accW_t, accW_f, isW, ↓i_grd, ↓grd_tt, ↓grd_ff, ↓grd_tf, ↓grd_ft, ↓grd_s, ↓itemK, ↓o_p, ↓o_l, ↓o_a, ↓o_w, ↓o_call, ↓o_callv, ↓callvK_f, ↓callvK_y, ↓r_range, ↓rangeV_f, ↓putF_get, ↓putF_none, ↓evF_t, ↓evF_c, ↓evF_f, new_nx, set_nx, new_get, set_get, optV_some, optW_some, optA_some, finK_some, ↓wpI_nil, ↓wpR_skip, ↓wpR_exit, ↓wpR_ret, getD_zero, getD_succ, b_add, b_sub, b_mul, b_quo, b_rem, b_eql, b_neq, b_lss, b_leq, b_gtr, b_geq, u_not, w_i64, w_u64, w_u8, t_div, t_mod, pop, lop, aop, wop, resL, resV, tupleV, akV, isVal, isCell, Value.cells, List.map_cons, List.map_nil, Bool.not_true, Bool.not_false, Option.map_some, ↓reduceIte, Nat.reduceEqDiff, Nat.reduceAdd, Int.reduceOfNat, Int.reduceNegSucc, decide_true, decide_false, reduceCtorEq, List.getElem?_cons_zero, List.getElem?_cons_succ, List.length_cons, List.length_nil, setc_0, setc_s, srcR_c, src_n, src_v, src_r, src_s, bnd, lenV, capV, Option.isSome_none, Option.isNone_none, Option.isSome_some, Option.isNone_some, Bool.or_false, Bool.or_true, Bool.true_or, Bool.false_or, List.take_succ_cons, List.take_zero, List.drop_succ_cons, List.drop_zero, List.cons_append, List.nil_append, List.append_nil, List.take_nil, List.drop_nil, List.all_cons, List.all_nil, Bool.and_true, Bool.true_and, List.size_toArray, List.getElem?_toArray, List.toList_toArray, bldV, Nat.reduceLeDiff, Nat.le_refl, u_neg, b_or0, Int.reduceMul, Int.reduceAdd, Int.reduceSub, Int.zero_mul, Int.zero_add, Int.add_zero, b_and3, b_and8, b_and24, b_shr2, b_shrs2, b_shr8, b_shr32, b_shr56, b_shl2, b_shl8, b_shl32, toNat_add1, toNat_add2, toNat_addn, toNat_add2n, Int.reduceToNat, maxLen_eq, zeros_one, zeros_two, zeros_three, take_mapl, List.length_map, List.map_append, List.length_append, beq_self_eq_true, beq_true, beq_false, Bool.false_xor, Bool.true_xor, Bool.xor_false, Bool.xor_true, dec_t, dec_f, ↓w_app, appS_some, appV_n, appV_v, appV_r, appR_c, appH_t, appH_f, Kd.isEx, Bool.false_and, partV, if_pos, if_neg, Nat.mul_one, Nat.one_mul, Nat.zero_add, Nat.add_zero, Int.toNat_natCast, true_and, and_true, f6, f9, hrow, hro, hpw, hpt, hg, toNat_add2n, ↓hs1, fnW_len]) | (with_reducible first | refine condK_dec (fun _ => ?_) fun _ => ?_ | refine grd_dec (fun _ => ?_) fun _ => ?_ | refine egrd_dec (fun _ => ?_) fun _ => ?_))
  refine (endK_n (by simp only [set_get]; rw [if_neg d1]; exact if_pos trivial)).2 ?_
  have hup := hS.up hF ham (j := 2 + m) (by omega) (turnF ws roots ls (wd ws (a + (2 + m))))
  rw [← Nat.add_assoc] at hup
  refine ⟨rfl, rfl, fun x h1 => ?_, _, ?_, hup.congr fun b hb j _ => ?_⟩
  · by_cases hx : x = l
    · rw [hx, set_get, if_pos rfl, hl]
    · simp only [set_get]; rw [if_neg hx, if_neg h1, if_neg hx]
  · simp only [set_get]; rw [if_neg d1.symm]; exact if_pos trivial
  · have := GB_step hF.ch.nodup ha hr hm b hb j
    rw [← Nat.add_assoc] at this
    exact this
end Can
end Go.Proofs.Ytopmheekeooodaa
