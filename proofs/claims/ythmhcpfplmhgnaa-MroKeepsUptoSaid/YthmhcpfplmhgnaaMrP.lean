/- Mro: order walked. -/
import Derived.Test.YthmhcpfplmhgnaaMrO
namespace Go.Proofs.Ythmhcpfplmhgnaa
namespace Can
open Go Go.RowKit
set_option linter.unusedSimpArgs false
set_option linter.unusedVariables false
set_option maxRecDepth 4000
def fk (es : Array MapEntry) (c : Nat) : Option (Option (Nat × Value)) := findK 0 (.int .i64 c) es.toList 0
/-- What order answers. -/
def OrdP (A K : CH) (r c : Nat) (bs : List (List Int)) (es : Array MapEntry) (v : Value) (K' : CH) : Prop :=
  HExt A K' ∧ K.nx ≤ K'.nx ∧ (∀ l os t k, l < K.nx → K.ob l = .cells os t k → K'.ob l = K.ob l) ∧ v = .bool (ordF bs c).isSome ∧
    ∃ es', KnAt A K' r bs es' ∧ (∀ c' : Nat, c < c' → fk es' c' = fk es c') ∧ ((ordF bs c).isSome = true → ∃ j u, fk es' c = some (some (j, u)))
def OwJ (A K : CH) (r c : Nat) (bs : List (List Int)) (row : List Int) (es : Array MapEntry) (n : Nat) (v7 v21 : Value) (K' : CH) : Prop :=
  ∃ (i : Nat) (ls : List (List Int)) (es' : Array MapEntry), n = row.length - i ∧ i ≤ row.length ∧ v21 = .int .i64 (i : Nat) ∧ OrL K K' v7 ls ∧ ls.length = i ∧ (∀ j (h1 : j < row.length) (h2 : j < ls.length), ordF bs row[j].toNat = some ls[j]) ∧
    HExt A K' ∧ K.nx ≤ K'.nx ∧ (∀ l os t k, l < K.nx → K.ob l = .cells os t k → K'.ob l = K.ob l) ∧ KnAt A K' r bs es' ∧ ∀ c' : Nat, c ≤ c' → fk es' c' = fk es c'
theorem KnAt.val {A K : CH} {r : Nat} {bs : List (List Int)} {es : Array MapEntry} (h : KnAt A K r bs es) {c j : Nat} {u : Value} (hf : fk es c = some (some (j, u))) : ∃ l b kd, ordF bs c = some l ∧ l ≠ [] ∧ u = .slice (some ⟨b, 0, none⟩) l.length l.length ∧ A.nx ≤ b ∧ b < K.nx ∧ K.ob b = .cells (l.flatMap (ints .i64)) 3 kd ∧ kd.isRo = false := by
  rcases h.2.2.2.2 c with g | ⟨j', u', l, g1, g2, g3, g4⟩
  · rw [show findK 0 (.int .i64 c) es.toList 0 = fk es c from rfl, hf] at g; cases g
  · rw [show findK 0 (.int .i64 c) es.toList 0 = fk es c from rfl, hf] at g1
    cases g1
    rcases g4 with ⟨e, _⟩ | ⟨b, kd, e, a1, a2, a3, a4⟩
    · exact absurd e g3
    · exact ⟨l, b, kd, g2, g3, e, a1, a2, a3, a4⟩
set_option maxHeartbeats 4000000 in
theorem order_wp {bs : List (List Int)} (hf : Fits bs) (h200 : bs.length ≤ 200) {A : CH} {r : Nat} {vb : Value} (hbs : BsAt A vb bs) : ∀ (n c : Nat), c < n → c < bs.length → ∀ (K : CH) (es : Array MapEntry), HExt A K → KnAt A K r bs es →
    WpF (tblG Try.prog LG GG) 15 [vb, .int .i64 (c : Nat), .map (some r)] K (OrdP A K r c bs es) := by
  intro n
  induction n with
  | zero => intro c h; omega
  | succ n ih =>
    intro c hcn hc K es hA hK
    obtain ⟨hr1, hr2, ⟨ck, hob⟩, hki, hkn⟩ := id hK
    refine wpF_rG (by rfl) (by kernel_rfl) ?_; (conv in (rF _ _).body => reduce); (conv in (rF _ _).res => reduce)
    rcases hkn c with hnone | ⟨j, u, l, hsome, ho, hl, hG⟩
    · obtain ⟨l0, o0, c0, os0, e0, kd0, u0, rfl, g1, g2, g3, g4, g5, g6, g7⟩ := (hbs.ext hA).get hc
      obtain ⟨row, hrow⟩ : ∃ row, bs[c] = row := ⟨_, rfl⟩
      rw [hrow] at g7
      obtain ⟨q1, c1, hu0, hc1, hm1, _⟩ := g7.len
      rw [maxLen_eq] at hm1
      have hgr : GoodRow c row := by rw [← hrow]; exact hf c hc
      have hrl := row_len hf c hc
      rw [hrow] at hrl
      repeat' (first | (simp (disch := first | omega | (decide +kernel) | (repeat first | assumption | exact HExt.refl _ | refine HExt.set ?_ (by first | omega | (simp only [new_nx, set_nx]; omega)) _ | refine HExt.new ?_ _)) only [↓RD, RU, accW_t, accW_f, isW, ↓putF_get, ↓putF_none, ↓evF_t, ↓evF_c, ↓evF_f, new_nx, set_nx, new_get, set_get, getD_zero, getD_succ, u_not, pop, lop, aop, wop, resL, resV, tupleV, akV, isVal, isCell, Value.cells, ρ0, ρ1, ρ2, ρ3, ρ4, ↓reduceIte, Nat.reduceEqDiff, Nat.reduceAdd, Int.reduceOfNat, Int.reduceNegSucc, reduceCtorEq, ρ5, ρ6, ρ7, ρ8, srcR_c, src_n, src_v, src_s, bnd, lenV, capV, ρ9, ρ10, ρ11, ρ12, ρ13, ρ14, ρ15, ρ16, ρ17, ρ18, ρ19, ρ20, ρ21, ρ22, ρ23, ρ24, Kd.isRo, ρ25, ρ26, bldV, Nat.reduceLeDiff, Int.reduceMul, Int.reduceAdd, Int.reduceSub, Int.reduceToNat, maxLen_eq, zeros_one, appS_some, appV_n, appV_v, appH_t, appH_f, Kd.isEx, ρ27, partV, CH.set_set, lkV, lkR, isKey, mupV, nxtV, ρ28, ρ29, hob, hnone, lkV, lkR, isKey, g4, g6, hu0]) | (with_reducible first | refine condK_dec (fun _ => ?_) fun _ => ?_ | refine grd_dec (fun _ => ?_) fun _ => ?_ | refine egrd_dec (fun _ => ?_) fun _ => ?_))
      refine loop_w (fun n fr K' => OwJ A K r c bs row es n (fr 7) (fr 21) K') (n := row.length) ⟨0, [], es, rfl, Nat.zero_le _, by (repeat' (first | (simp (disch := first | omega | (decide +kernel) | (repeat first | assumption | exact HExt.refl _ | refine HExt.set ?_ (by first | omega | (simp only [new_nx, set_nx]; omega)) _ | refine HExt.new ?_ _)) only [↓RD, RU, accW_t, accW_f, isW, ↓putF_get, ↓putF_none, ↓evF_t, ↓evF_c, ↓evF_f, new_nx, set_nx, new_get, set_get, getD_zero, getD_succ, u_not, pop, lop, aop, wop, resL, resV, tupleV, akV, isVal, isCell, Value.cells, ρ0, ρ1, ρ2, ρ3, ρ4, ↓reduceIte, Nat.reduceEqDiff, Nat.reduceAdd, Int.reduceOfNat, Int.reduceNegSucc, reduceCtorEq, ρ5, ρ6, ρ7, ρ8, srcR_c, src_n, src_v, src_s, bnd, lenV, capV, ρ9, ρ10, ρ11, ρ12, ρ13, ρ14, ρ15, ρ16, ρ17, ρ18, ρ19, ρ20, ρ21, ρ22, ρ23, ρ24, Kd.isRo, ρ25, ρ26, bldV, Nat.reduceLeDiff, Int.reduceMul, Int.reduceAdd, Int.reduceSub, Int.reduceToNat, maxLen_eq, zeros_one, appS_some, appV_n, appV_v, appH_t, appH_f, Kd.isEx, ρ27, partV, CH.set_set, lkV, lkR, isKey, mupV, nxtV, ρ28, ρ29]) | (with_reducible first | refine condK_dec (fun _ => ?_) fun _ => ?_ | refine grd_dec (fun _ => ?_) fun _ => ?_ | refine egrd_dec (fun _ => ?_) fun _ => ?_)); all_goals rfl), ⟨[], .inl ⟨rfl, by (repeat' (first | (simp (disch := first | omega | (decide +kernel) | (repeat first | assumption | exact HExt.refl _ | refine HExt.set ?_ (by first | omega | (simp only [new_nx, set_nx]; omega)) _ | refine HExt.new ?_ _)) only [↓RD, RU, accW_t, accW_f, isW, ↓putF_get, ↓putF_none, ↓evF_t, ↓evF_c, ↓evF_f, new_nx, set_nx, new_get, set_get, getD_zero, getD_succ, u_not, pop, lop, aop, wop, resL, resV, tupleV, akV, isVal, isCell, Value.cells, ρ0, ρ1, ρ2, ρ3, ρ4, ↓reduceIte, Nat.reduceEqDiff, Nat.reduceAdd, Int.reduceOfNat, Int.reduceNegSucc, reduceCtorEq, ρ5, ρ6, ρ7, ρ8, srcR_c, src_n, src_v, src_s, bnd, lenV, capV, ρ9, ρ10, ρ11, ρ12, ρ13, ρ14, ρ15, ρ16, ρ17, ρ18, ρ19, ρ20, ρ21, ρ22, ρ23, ρ24, Kd.isRo, ρ25, ρ26, bldV, Nat.reduceLeDiff, Int.reduceMul, Int.reduceAdd, Int.reduceSub, Int.reduceToNat, maxLen_eq, zeros_one, appS_some, appV_n, appV_v, appH_t, appH_f, Kd.isEx, ρ27, partV, CH.set_set, lkV, lkR, isKey, mupV, nxtV, ρ28, ρ29]) | (with_reducible first | refine condK_dec (fun _ => ?_) fun _ => ?_ | refine grd_dec (fun _ => ?_) fun _ => ?_ | refine egrd_dec (fun _ => ?_) fun _ => ?_)); all_goals rfl)⟩, rfl, fun i u l h => by simp at h⟩, rfl, fun j h1 h2 => absurd h2 (by simp), hA, Nat.le_refl _, fun _ _ _ _ _ _ => rfl, hK, fun _ _ => rfl⟩ ?_
      rintro m fr K1 ⟨i, ls, es1, rfl, hi, f21, hL, hll, hls, hA1, hn1, hk1, hK1, hes1⟩ hag
      obtain ⟨v7, f7⟩ : ∃ v, fr 7 = v := ⟨_, rfl⟩
      rw [f7] at hL
      by_cases hil : i < row.length
      · have g7' := g7.mvd hn1 hk1
        obtain ⟨l3, o3, c3, os3, e3, kd3, hu3, p1, p2, p3, p4, p5, p6⟩ := g7'.cells (by omega)
        rw [hu0] at hu3
        obtain ⟨rfl, rfl⟩ : q1 = some ⟨l3, o3, none⟩ ∧ c1 = c3 := by cases hu3; exact ⟨rfl, rfl⟩
        have g := p6 i hil
        rw [List.getD_eq_getElem?_getD, List.getElem?_eq_getElem hil, Option.getD_some] at g
        have hx := hgr.2 row[i] (List.getElem_mem hil)
        obtain ⟨x, hxe⟩ : ∃ x, row[i].toNat = x := ⟨_, rfl⟩
        have hxi : row[i] = (x : Int) := by omega
        rw [hxi] at g
        repeat' (first | (simp (disch := first | omega | (decide +kernel) | (repeat first | assumption | exact HExt.refl _ | refine HExt.set ?_ (by first | omega | (simp only [new_nx, set_nx]; omega)) _ | refine HExt.new ?_ _)) only [↓RD, RU, accW_t, accW_f, isW, ↓putF_get, ↓putF_none, ↓evF_t, ↓evF_c, ↓evF_f, new_nx, set_nx, new_get, set_get, getD_zero, getD_succ, u_not, pop, lop, aop, wop, resL, resV, tupleV, akV, isVal, isCell, Value.cells, ρ0, ρ1, ρ2, ρ3, ρ4, ↓reduceIte, Nat.reduceEqDiff, Nat.reduceAdd, Int.reduceOfNat, Int.reduceNegSucc, reduceCtorEq, ρ5, ρ6, ρ7, ρ8, srcR_c, src_n, src_v, src_s, bnd, lenV, capV, ρ9, ρ10, ρ11, ρ12, ρ13, ρ14, ρ15, ρ16, ρ17, ρ18, ρ19, ρ20, ρ21, ρ22, ρ23, ρ24, Kd.isRo, ρ25, ρ26, bldV, Nat.reduceLeDiff, Int.reduceMul, Int.reduceAdd, Int.reduceSub, Int.reduceToNat, maxLen_eq, zeros_one, appS_some, appV_n, appV_v, appH_t, appH_f, Kd.isEx, ρ27, partV, CH.set_set, lkV, lkR, isKey, mupV, nxtV, ρ28, ρ29, hag, f21, p4, g]) | (with_reducible first | refine condK_dec (fun _ => ?_) fun _ => ?_ | refine grd_dec (fun _ => ?_) fun _ => ?_ | refine egrd_dec (fun _ => ?_) fun _ => ?_))
        refine (ih x (by omega) (by omega) K1 es1 hA1 hK1).mono fun v2 K2 ⟨hA2, hn2, hk2, hv2, es2, hK2, hes2, hfd⟩ => ?_
        subst hv2
        cases ho : ordF bs x with
        | none =>
          have hnf : ordF bs c = none := by
            rw [ordF_step hf c hc, hrow]
            unfold stepF
            rw [rowsF_none i hil (by rw [hxe]; exact ho)]
          repeat' (first | (simp (disch := first | omega | (decide +kernel) | (repeat first | assumption | exact HExt.refl _ | refine HExt.set ?_ (by first | omega | (simp only [new_nx, set_nx]; omega)) _ | refine HExt.new ?_ _)) only [↓RD, RU, accW_t, accW_f, isW, ↓putF_get, ↓putF_none, ↓evF_t, ↓evF_c, ↓evF_f, new_nx, set_nx, new_get, set_get, getD_zero, getD_succ, u_not, pop, lop, aop, wop, resL, resV, tupleV, akV, isVal, isCell, Value.cells, ρ0, ρ1, ρ2, ρ3, ρ4, ↓reduceIte, Nat.reduceEqDiff, Nat.reduceAdd, Int.reduceOfNat, Int.reduceNegSucc, reduceCtorEq, ρ5, ρ6, ρ7, ρ8, srcR_c, src_n, src_v, src_s, bnd, lenV, capV, ρ9, ρ10, ρ11, ρ12, ρ13, ρ14, ρ15, ρ16, ρ17, ρ18, ρ19, ρ20, ρ21, ρ22, ρ23, ρ24, Kd.isRo, ρ25, ρ26, bldV, Nat.reduceLeDiff, Int.reduceMul, Int.reduceAdd, Int.reduceSub, Int.reduceToNat, maxLen_eq, zeros_one, appS_some, appV_n, appV_v, appH_t, appH_f, Kd.isEx, ρ27, partV, CH.set_set, lkV, lkR, isKey, mupV, nxtV, ρ28, ρ29, Option.isSome_none]) | (with_reducible first | refine condK_dec (fun _ => ?_) fun _ => ?_ | refine grd_dec (fun _ => ?_) fun _ => ?_ | refine egrd_dec (fun _ => ?_) fun _ => ?_))
          all_goals exact ⟨hA2, Nat.le_trans hn1 hn2, fun l os t k h1 h2 => (hk2 l os t k (Nat.lt_of_lt_of_le h1 hn1) ((hk1 l os t k h1 h2).trans h2)).trans (hk1 l os t k h1 h2), by rw [hnf]; rfl, es2, hK2, fun c' h => (hes2 c' (by omega)).trans (hes1 c' (by omega)), fun h => by rw [hnf] at h; cases h⟩
        | some l2 =>
          obtain ⟨j2, u2, hf2⟩ := hfd (by rw [ho]; rfl)
          obtain ⟨l2', b2, kd2, ho2, hl2, rfl, w1, w2, w3, w4⟩ := hK2.val hf2
          rw [ho] at ho2
          cases ho2
          obtain ⟨_, hr2', ⟨ck2, hob2⟩, _, _⟩ := id hK2
          have hf2' : findK 0 (.int .i64 (x : Nat)) es2.toList 0 = some (some (j2, .slice (some ⟨b2, 0, none⟩) l2.length l2.length)) := hf2
          repeat' (first | (simp (disch := first | omega | (decide +kernel) | (repeat first | assumption | exact HExt.refl _ | refine HExt.set ?_ (by first | omega | (simp only [new_nx, set_nx]; omega)) _ | refine HExt.new ?_ _)) only [↓r_seq, ↓r_block, ↓seqK_n, ↓seqK_r, ↓seqK_e, ↓blockK_n, ↓blockK_r, ↓blockK_e, ↓loopI_n, ↓loopI_r, ↓loopI_e, ↓funK_n, ↓funK_r, ↓r_reg, ↓r_drw, ↓r_cond, ↓condK_t, ↓condK_f, ↓i_cons, ↓eitemK, ↓e_nil, ↓e_cons, ↓e_grd, ↓egrd_tt, ↓egrd_ff, ↓egrd_tf, ↓egrd_ft, ↓egrd_s, ↓drwK, ↓r_drw2, ↓chk_nil, ↓chk_n, ↓chk_g, agL, agV_tt, agV_ff, agV_tf, agV_ft, agV_s, agE, accW_t, accW_f, isW, ↓i_grd, ↓grd_tt, ↓grd_ff, ↓grd_tf, ↓grd_ft, ↓grd_s, ↓itemK, ↓o_p, ↓o_l, ↓o_a, ↓o_w, ↓o_call, ↓o_callv, ↓callvK_f, ↓callvK_y, ↓r_range, ↓rangeV_f, ↓putF_get, ↓putF_none, ↓evF_t, ↓evF_c, ↓evF_f, new_nx, set_nx, new_get, set_get, optV_some, optW_some, optA_some, finK_some, ↓wpI_nil, ↓wpR_skip, ↓wpR_exit, ↓wpR_ret, getD_zero, getD_succ, b_add, b_sub, b_mul, b_quo, b_rem, b_eql, b_neq, b_lss, b_leq, b_gtr, b_geq, u_not, w_i64, w_u64, w_u8, t_div, t_mod, pop, lop, aop, wop, resL, resV, tupleV, akV, isVal, isCell, Value.cells, List.map_cons, List.map_nil, Bool.not_true, Bool.not_false, Option.map_some, ↓reduceIte, Nat.reduceEqDiff, Nat.reduceAdd, Int.reduceOfNat, Int.reduceNegSucc, decide_true, decide_false, reduceCtorEq, List.getElem?_cons_zero, List.getElem?_cons_succ, List.length_cons, List.length_nil, setc_0, setc_s, srcR_c, src_n, src_v, src_r, src_s, bnd, lenV, capV, Option.isSome_none, Option.isNone_none, Option.isSome_some, Option.isNone_some, Bool.or_false, Bool.or_true, Bool.true_or, Bool.false_or, List.take_succ_cons, List.take_zero, List.drop_succ_cons, List.drop_zero, List.cons_append, List.nil_append, List.append_nil, List.take_nil, List.drop_nil, List.all_cons, List.all_nil, Bool.and_true, Bool.true_and, Kd.isRo, List.size_toArray, List.getElem?_toArray, List.toList_toArray, bldV, Nat.reduceLeDiff, Nat.le_refl, u_neg, b_or0, Int.reduceMul, Int.reduceAdd, Int.reduceSub, Int.zero_mul, Int.zero_add, Int.add_zero, b_and3, b_and8, b_and24, b_shr2, b_shrs2, b_shr8, b_shr32, b_shr56, b_shl2, b_shl8, b_shl32, toNat_add1, toNat_add2, toNat_addn, toNat_add2n, Int.reduceToNat, maxLen_eq, zeros_one, zeros_two, zeros_three, take_mapl, List.length_map, List.map_append, List.length_append, beq_self_eq_true, beq_true, beq_false, Bool.false_xor, Bool.true_xor, Bool.xor_false, Bool.xor_true, dec_t, dec_f, ↓w_app, appS_some, appV_v, appH_t, appH_f, Kd.isEx, Bool.false_and, partV, if_pos, if_neg, Nat.mul_one, Nat.one_mul, Nat.zero_add, Nat.add_zero, Int.toNat_natCast, true_and, and_true, hag, f7, hob2, hf2', lkV, lkR, isKey, Option.isSome_some]) | (with_reducible first | refine condK_dec (fun _ => ?_) fun _ => ?_ | refine grd_dec (fun _ => ?_) fun _ => ?_ | refine egrd_dec (fun _ => ?_) fun _ => ?_))
          have hx12 : ∀ l os t k, l < K.nx → K.ob l = .cells os t k → K2.ob l = K.ob l := fun l os t k h1 h2 => (hk2 l os t k (Nat.lt_of_lt_of_le h1 hn1) ((hk1 l os t k h1 h2).trans h2)).trans (hk1 l os t k h1 h2)
          have hLx : OrL K (K2.new (.cells [.slice (some ⟨b2, 0, none⟩) l2.length l2.length] 24 .ex)) v7 ls := (hL.mv hn2 hk2).mv (Nat.le_succ _) fun l os t k h1 h2 => new_get.trans (if_neg (by omega))
          have hil2 : IL K2 (.slice (some ⟨b2, 0, none⟩) l2.length l2.length) l2 := grw_il (by have := ordF_len hf x (by omega) ho; omega) (fun y hy => by have := ordF_mem hf (x + 1) x (by omega) (by omega) l2 ho y hy; omega) (.inr ⟨b2, kd2, rfl, w1, w2, w3, w4⟩)
          obtain ⟨KK, hKK⟩ : ∃ KK, K2.new (.cells [.slice (some ⟨b2, 0, none⟩) l2.length l2.length] 24 .ex) = KK := ⟨_, rfl⟩
          have hxK : HExt K2 KK := by rw [← hKK]; exact (HExt.refl K2).new _
          have hKn : K.nx ≤ KK.nx := Nat.le_trans (Nat.le_trans hn1 hn2) hxK.nx
          rw [hKK] at hLx ⊢
          refine OrL.push (A := ⟨K.nx, KK.ob⟩) hLx ⟨hKn, fun _ _ => rfl⟩ (by omega) (hil2.ext hxK) fun v8 K8 hL8 hA8 hn8 hc8 hm8 => ?_
          have hK8 : KnAt A K8 r bs es2 := (hK2.mv hxK.nx (hxK.ob r hr2') fun l os k h1 h2 => hxK.ob l h1).mv hn8 (hm8 r es2 ck2 (Nat.lt_of_lt_of_le hr2' hxK.nx) ((hxK.ob r hr2').trans hob2)) fun l os k h1 h2 => hc8 l os _ k h1 (.inl (by decide)) h2
          have hK8c : ∀ l os t k, l < K.nx → K.ob l = .cells os t k → K8.ob l = K.ob l := fun l os t k h1 h2 => (hA8.ob l h1).trans ((hxK.ob l (Nat.lt_of_lt_of_le h1 (Nat.le_trans hn1 hn2))).trans (hx12 l os t k h1 h2))
          have hA9 : HExt A K8 := ⟨Nat.le_trans hA.nx hA8.nx, fun l hl => (hA8.ob l (Nat.lt_of_lt_of_le hl hA.nx)).trans ((hxK.ob l (Nat.lt_of_lt_of_le hl hA2.nx)).trans (hA2.ob l hl))⟩
          repeat' (first | (simp (disch := first | omega | (decide +kernel) | (repeat first | assumption | exact HExt.refl _ | refine HExt.set ?_ (by first | omega | (simp only [new_nx, set_nx]; omega)) _ | refine HExt.new ?_ _)) only [↓RD, RU, accW_t, accW_f, isW, ↓putF_get, ↓putF_none, ↓evF_t, ↓evF_c, ↓evF_f, new_nx, set_nx, new_get, set_get, getD_zero, getD_succ, u_not, pop, lop, aop, wop, resL, resV, tupleV, akV, isVal, isCell, Value.cells, ρ0, ρ1, ρ2, ρ3, ρ4, ↓reduceIte, Nat.reduceEqDiff, Nat.reduceAdd, Int.reduceOfNat, Int.reduceNegSucc, reduceCtorEq, ρ5, ρ6, ρ7, ρ8, srcR_c, src_n, src_v, src_s, bnd, lenV, capV, ρ9, ρ10, ρ11, ρ12, ρ13, ρ14, ρ15, ρ16, ρ17, ρ18, ρ19, ρ20, ρ21, ρ22, ρ23, ρ24, Kd.isRo, ρ25, ρ26, bldV, Nat.reduceLeDiff, Int.reduceMul, Int.reduceAdd, Int.reduceSub, Int.reduceToNat, maxLen_eq, zeros_one, appS_some, appV_n, appV_v, appH_t, appH_f, Kd.isEx, ρ27, partV, CH.set_set, lkV, lkR, isKey, mupV, nxtV, ρ28, ρ29, hag, f21]) | (with_reducible first | refine condK_dec (fun _ => ?_) fun _ => ?_ | refine grd_dec (fun _ => ?_) fun _ => ?_ | refine egrd_dec (fun _ => ?_) fun _ => ?_))
          all_goals exact ⟨row.length - (i + 1), by omega, i + 1, ls ++ [l2], es2, rfl, hil, rfl, hL8, by simp [hll], fun j h1 h2 => by
            by_cases e : j < ls.length
            · rw [List.getElem_append_left e]; exact hls j h1 e
            · have : j = i := by simp at h2; omega
              subst this
              rw [List.getElem_append_right (by omega)]
              simp only [hll, Nat.sub_self, List.getElem_cons_zero]
              rw [hxe]; exact ho, hA9, hA8.nx, hK8c, hK8, fun c' h => (hes2 c' (by omega)).trans (hes1 c' h)⟩
      · have hie : i = row.length := by omega
        have hll' : ls.length = row.length := by omega
        have hrf := rowsF_take hll' hls
        have hstep : ordF bs c = if (mergeL (ls ++ [row])).2 then some ((c : Int) :: (mergeL (ls ++ [row])).1) else none := by
          rw [ordF_step hf c hc, hrow]
          unfold stepF
          rw [hrf]
        have hsm : total (ls ++ [row]) ≤ 1000000 ∧ (ls ++ [row]).length ≤ 1000000 := by
          have := rows_small hf h200 c hc (ls := ls) (by rw [hrow]; omega) (fun j h1 h2 => by
            have h1' : j < row.length := by omega
            have := hls j h1' h2
            rw [← this]
            congr 2
            simp [hrow])
          rw [hrow] at this
          exact this
        subst hie
        have hob0 := (hk1 l0 os0 e0 kd0 g1 g4).trans g4
        have g7' := g7.mvd hn1 hk1
        rw [hu0] at g7'
        repeat' (first | (simp (disch := first | omega | (decide +kernel) | (repeat first | assumption | exact HExt.refl _ | refine HExt.set ?_ (by first | omega | (simp only [new_nx, set_nx]; omega)) _ | refine HExt.new ?_ _)) only [↓r_seq, ↓r_block, ↓seqK_n, ↓seqK_r, ↓seqK_e, ↓blockK_n, ↓blockK_r, ↓blockK_e, ↓loopI_n, ↓loopI_r, ↓loopI_e, ↓funK_n, ↓funK_r, ↓r_reg, ↓r_drw, ↓r_cond, ↓condK_t, ↓condK_f, ↓i_cons, ↓eitemK, ↓e_nil, ↓e_cons, ↓e_grd, ↓egrd_tt, ↓egrd_ff, ↓egrd_tf, ↓egrd_ft, ↓egrd_s, ↓drwK, ↓r_drw2, ↓chk_nil, ↓chk_n, ↓chk_g, agL, agV_tt, agV_ff, agV_tf, agV_ft, agV_s, agE, accW_t, accW_f, isW, ↓i_grd, ↓grd_tt, ↓grd_ff, ↓grd_tf, ↓grd_ft, ↓grd_s, ↓itemK, ↓o_p, ↓o_l, ↓o_a, ↓o_w, ↓o_call, ↓o_callv, ↓callvK_f, ↓callvK_y, ↓r_range, ↓rangeV_f, ↓putF_get, ↓putF_none, ↓evF_t, ↓evF_c, ↓evF_f, new_nx, set_nx, new_get, set_get, optV_some, optW_some, optA_some, finK_some, ↓wpI_nil, ↓wpR_skip, ↓wpR_exit, ↓wpR_ret, getD_zero, getD_succ, b_add, b_sub, b_mul, b_quo, b_rem, b_eql, b_neq, b_lss, b_leq, b_gtr, b_geq, u_not, w_i64, w_u64, w_u8, t_div, t_mod, pop, lop, aop, wop, resL, resV, tupleV, akV, isVal, isCell, Value.cells, List.map_cons, List.map_nil, Bool.not_true, Bool.not_false, Option.map_some, ↓reduceIte, Nat.reduceEqDiff, Nat.reduceAdd, Int.reduceOfNat, Int.reduceNegSucc, decide_true, decide_false, reduceCtorEq, List.getElem?_cons_zero, List.getElem?_cons_succ, List.length_cons, List.length_nil, setc_0, setc_s, srcR_c, src_n, src_v, src_r, src_s, bnd, lenV, capV, Option.isSome_none, Option.isNone_none, Option.isSome_some, Option.isNone_some, Bool.or_false, Bool.or_true, Bool.true_or, Bool.false_or, List.take_succ_cons, List.take_zero, List.drop_succ_cons, List.drop_zero, List.cons_append, List.nil_append, List.append_nil, List.take_nil, List.drop_nil, List.all_cons, List.all_nil, Bool.and_true, Bool.true_and, Kd.isRo, List.size_toArray, List.getElem?_toArray, List.toList_toArray, bldV, Nat.reduceLeDiff, Nat.le_refl, u_neg, b_or0, Int.reduceMul, Int.reduceAdd, Int.reduceSub, Int.zero_mul, Int.zero_add, Int.add_zero, b_and3, b_and8, b_and24, b_shr2, b_shrs2, b_shr8, b_shr32, b_shr56, b_shl2, b_shl8, b_shl32, toNat_add1, toNat_add2, toNat_addn, toNat_add2n, Int.reduceToNat, maxLen_eq, zeros_one, zeros_two, zeros_three, take_mapl, List.length_map, List.map_append, List.length_append, beq_self_eq_true, beq_true, beq_false, Bool.false_xor, Bool.true_xor, Bool.xor_false, Bool.xor_true, dec_t, dec_f, ↓w_app, appS_some, appV_v, appH_t, appH_f, Kd.isEx, Bool.false_and, partV, if_pos, if_neg, Nat.mul_one, Nat.one_mul, Nat.zero_add, Nat.add_zero, Int.toNat_natCast, true_and, and_true, hag, f21, f7, hob0, g6, hu0]) | (with_reducible first | refine condK_dec (fun _ => ?_) fun _ => ?_ | refine grd_dec (fun _ => ?_) fun _ => ?_ | refine egrd_dec (fun _ => ?_) fun _ => ?_))
        obtain ⟨KK, hKK⟩ : ∃ KK, K1.new (.cells [.slice q1 row.length c1] 24 .ex) = KK := ⟨_, rfl⟩
        have hxK : HExt K1 KK := by rw [← hKK]; exact (HExt.refl K1).new _
        have hKn : K.nx ≤ KK.nx := Nat.le_trans hn1 hxK.nx
        have hLx := hL.mv hxK.nx fun l os t k h1 h2 => hxK.ob l h1
        rw [hKK]
        obtain ⟨_, hr2', ⟨ck1, hob1⟩, hki1, _⟩ := id hK1
        refine OrL.push (A := ⟨K.nx, KK.ob⟩) hLx ⟨hKn, fun _ _ => rfl⟩ (by omega) (g7'.ext hxK) fun v8 K8 hL8 hA8 hn8 hc8 hm8 => ?_
        have hob8 : K8.ob r = .map es1 ck1 := (hm8 r es1 ck1 (Nat.lt_of_lt_of_le hr2' hxK.nx) ((hxK.ob r hr2').trans hob1)).trans ((hxK.ob r hr2').trans hob1)
        have hK8 : KnAt A K8 r bs es1 := (hK1.mv hxK.nx (hxK.ob r hr2') fun l os k h1 h2 => hxK.ob l h1).mv hn8 (hob8.trans ((hxK.ob r hr2').trans hob1).symm) fun l os k h1 h2 => hc8 l os _ k h1 (.inl (by decide)) h2
        have hK8c : ∀ l os t k, l < K.nx → K.ob l = .cells os t k → K8.ob l = K.ob l := fun l os t k h1 h2 => (hA8.ob l h1).trans ((hxK.ob l (Nat.lt_of_lt_of_le h1 hn1)).trans (hk1 l os t k h1 h2))
        have hA9 : HExt A K8 := ⟨Nat.le_trans hA.nx hA8.nx, fun l hl => (hA8.ob l (Nat.lt_of_lt_of_le hl hA.nx)).trans ((hxK.ob l (Nat.lt_of_lt_of_le hl hA1.nx)).trans (hA1.ob l hl))⟩
        obtain ⟨us, hGu, hul, hIu⟩ := hL8
        rcases hGu with ⟨e, _⟩ | ⟨b, kd, rfl, a1, a2, a3, a4⟩
        · subst e; simp at hul
        have a1' : K.nx ≤ b := a1
        have hLs : LsAt K8.nx K8 b (ls ++ [row]) := by
          refine ⟨a2, _, kd, a3, a4, by rw [flat_row, List.length_map]; exact hul, fun i u l hu hl => ?_⟩
          rw [flat_row, List.getElem?_map] at hu
          obtain ⟨w, hw, rfl⟩ := Option.map_eq_some_iff.1 hu
          have hIL := hIu i w l hw hl
          refine ⟨hIL, fun x o n c e => ⟨?_, hIL.ne a3 a4 e⟩⟩
          obtain ⟨_, _, _, g0, _⟩ := hIL.blk e
          exact g0
        repeat' (first | (simp (disch := first | omega | (decide +kernel) | (repeat first | assumption | exact HExt.refl _ | refine HExt.set ?_ (by first | omega | (simp only [new_nx, set_nx]; omega)) _ | refine HExt.new ?_ _)) only [↓RD, RU, accW_t, accW_f, isW, ↓putF_get, ↓putF_none, ↓evF_t, ↓evF_c, ↓evF_f, new_nx, set_nx, new_get, set_get, getD_zero, getD_succ, u_not, pop, lop, aop, wop, resL, resV, tupleV, akV, isVal, isCell, Value.cells, ρ0, ρ1, ρ2, ρ3, ρ4, ↓reduceIte, Nat.reduceEqDiff, Nat.reduceAdd, Int.reduceOfNat, Int.reduceNegSucc, reduceCtorEq, ρ5, ρ6, ρ7, ρ8, srcR_c, src_n, src_v, src_s, bnd, lenV, capV, ρ9, ρ10, ρ11, ρ12, ρ13, ρ14, ρ15, ρ16, ρ17, ρ18, ρ19, ρ20, ρ21, ρ22, ρ23, ρ24, Kd.isRo, ρ25, ρ26, bldV, Nat.reduceLeDiff, Int.reduceMul, Int.reduceAdd, Int.reduceSub, Int.reduceToNat, maxLen_eq, zeros_one, appS_some, appV_n, appV_v, appH_t, appH_f, Kd.isEx, ρ27, partV, CH.set_set, lkV, lkR, isKey, mupV, nxtV, ρ28, ρ29]) | (with_reducible first | refine condK_dec (fun _ => ?_) fun _ => ?_ | refine grd_dec (fun _ => ?_) fun _ => ?_ | refine egrd_dec (fun _ => ?_) fun _ => ?_))
        have hmg := merge_wp (cp := us.length) hLs hsm.1 hsm.2 (by omega)
        rw [← hul] at hmg
        refine hmg.mono fun v9 K9 ⟨hn9, hk9, vo, hv9, hGo⟩ => ?_
        subst hv9
        have hrb : r ≠ b := by rintro rfl; rw [hob8] at a3; cases a3
        have hK9 : KnAt A K9 r bs es1 := hK8.mv hn9 (hk9 r (hK8.2.1) hrb) fun l os k h1 h2 => hk9 l h1 (by rintro rfl; rw [h2] at a3; have := (CObj.cells.inj a3).2.1; revert this; decide)
        have hA9' : HExt A K9 := ⟨Nat.le_trans hA9.nx hn9, fun l hl => (hk9 l (Nat.lt_of_lt_of_le hl hA9.nx) (by have := hA.nx; omega)).trans (hA9.ob l hl)⟩
        have hK9c : ∀ l os t k, l < K.nx → K.ob l = .cells os t k → K9.ob l = K.ob l := fun l os t k h1 h2 => (hk9 l (Nat.lt_of_lt_of_le h1 hA8.nx) (by omega)).trans (hK8c l os t k h1 h2)
        have hfc : fk es1 c = some none := (hes1 c (Nat.le_refl _)).trans hnone
        cases hok : (mergeL (ls ++ [row])).2 with
        | false =>
          have hno : ordF bs c = none := by rw [hstep, hok]; rfl
          repeat' (first | (simp (disch := first | omega | (decide +kernel) | (repeat first | assumption | exact HExt.refl _ | refine HExt.set ?_ (by first | omega | (simp only [new_nx, set_nx]; omega)) _ | refine HExt.new ?_ _)) only [↓RD, RU, accW_t, accW_f, isW, ↓putF_get, ↓putF_none, ↓evF_t, ↓evF_c, ↓evF_f, new_nx, set_nx, new_get, set_get, getD_zero, getD_succ, u_not, pop, lop, aop, wop, resL, resV, tupleV, akV, isVal, isCell, Value.cells, ρ0, ρ1, ρ2, ρ3, ρ4, ↓reduceIte, Nat.reduceEqDiff, Nat.reduceAdd, Int.reduceOfNat, Int.reduceNegSucc, reduceCtorEq, ρ5, ρ6, ρ7, ρ8, srcR_c, src_n, src_v, src_s, bnd, lenV, capV, ρ9, ρ10, ρ11, ρ12, ρ13, ρ14, ρ15, ρ16, ρ17, ρ18, ρ19, ρ20, ρ21, ρ22, ρ23, ρ24, Kd.isRo, ρ25, ρ26, bldV, Nat.reduceLeDiff, Int.reduceMul, Int.reduceAdd, Int.reduceSub, Int.reduceToNat, maxLen_eq, zeros_one, appS_some, appV_n, appV_v, appH_t, appH_f, Kd.isEx, ρ27, partV, CH.set_set, lkV, lkR, isKey, mupV, nxtV, ρ28, ρ29]) | (with_reducible first | refine condK_dec (fun _ => ?_) fun _ => ?_ | refine grd_dec (fun _ => ?_) fun _ => ?_ | refine egrd_dec (fun _ => ?_) fun _ => ?_))
          all_goals exact ⟨hA9', Nat.le_trans hA8.nx hn9, hK9c, by rw [hno]; rfl, es1, hK9, fun c' h => hes1 c' (Nat.le_of_lt h), fun h => by rw [hno] at h; cases h⟩
        | true =>
          obtain ⟨mg, hmge⟩ : ∃ mg, (mergeL (ls ++ [row])).1 = mg := ⟨_, rfl⟩
          have hyes : ordF bs c = some ((c : Int) :: mg) := by rw [hstep, hok, hmge]; rfl
          have hlen := ordF_len hf c hc hyes
          simp only [List.length_cons] at hlen
          rw [hmge] at hGo
          repeat' (first | (simp (disch := first | omega | (decide +kernel) | (repeat first | assumption | exact HExt.refl _ | refine HExt.set ?_ (by first | omega | (simp only [new_nx, set_nx]; omega)) _ | refine HExt.new ?_ _)) only [↓r_seq, ↓r_block, ↓seqK_n, ↓seqK_r, ↓seqK_e, ↓blockK_n, ↓blockK_r, ↓blockK_e, ↓loopI_n, ↓loopI_r, ↓loopI_e, ↓funK_n, ↓funK_r, ↓r_reg, ↓r_drw, ↓r_cond, ↓condK_t, ↓condK_f, ↓i_cons, ↓eitemK, ↓e_nil, ↓e_cons, ↓e_grd, ↓egrd_tt, ↓egrd_ff, ↓egrd_tf, ↓egrd_ft, ↓egrd_s, ↓drwK, ↓r_drw2, ↓chk_nil, ↓chk_n, ↓chk_g, agL, agV_tt, agV_ff, agV_tf, agV_ft, agV_s, agE, accW_t, accW_f, isW, ↓i_grd, ↓grd_tt, ↓grd_ff, ↓grd_tf, ↓grd_ft, ↓grd_s, ↓itemK, ↓o_p, ↓o_l, ↓o_a, ↓o_w, ↓o_call, ↓o_callv, ↓callvK_f, ↓callvK_y, ↓r_range, ↓rangeV_f, ↓putF_get, ↓putF_none, ↓evF_t, ↓evF_c, ↓evF_f, new_nx, set_nx, new_get, set_get, optV_some, optW_some, optA_some, finK_some, ↓wpI_nil, ↓wpR_skip, ↓wpR_exit, ↓wpR_ret, getD_zero, getD_succ, b_add, b_sub, b_mul, b_quo, b_rem, b_eql, b_neq, b_lss, b_leq, b_gtr, b_geq, u_not, w_i64, w_u64, w_u8, t_div, t_mod, pop, lop, aop, wop, resL, resV, tupleV, akV, isVal, isCell, Value.cells, List.map_cons, List.map_nil, Bool.not_true, Bool.not_false, Option.map_some, ↓reduceIte, Nat.reduceEqDiff, Nat.reduceAdd, Int.reduceOfNat, Int.reduceNegSucc, decide_true, decide_false, reduceCtorEq, List.getElem?_cons_zero, List.getElem?_cons_succ, List.length_cons, List.length_nil, setc_0, setc_s, srcR_c, src_n, src_v, src_r, src_s, bnd, lenV, capV, Option.isSome_none, Option.isNone_none, Option.isSome_some, Option.isNone_some, Bool.or_false, Bool.or_true, Bool.true_or, Bool.false_or, List.take_succ_cons, List.take_zero, List.drop_succ_cons, List.drop_zero, List.cons_append, List.nil_append, List.append_nil, List.take_nil, List.drop_nil, List.all_cons, List.all_nil, Bool.and_true, Bool.true_and, Kd.isRo, List.size_toArray, List.getElem?_toArray, List.toList_toArray, bldV, Nat.reduceLeDiff, Nat.le_refl, u_neg, b_or0, Int.reduceMul, Int.reduceAdd, Int.reduceSub, Int.zero_mul, Int.zero_add, Int.add_zero, b_and3, b_and8, b_and24, b_shr2, b_shrs2, b_shr8, b_shr32, b_shr56, b_shl2, b_shl8, b_shl32, toNat_add1, toNat_add2, toNat_addn, toNat_add2n, Int.reduceToNat, maxLen_eq, zeros_one, zeros_two, zeros_three, take_mapl, List.length_map, List.map_append, List.length_append, beq_self_eq_true, beq_true, beq_false, Bool.false_xor, Bool.true_xor, Bool.xor_false, Bool.xor_true, dec_t, dec_f, ↓w_app, appS_some, appV_v, appH_t, appH_f, Kd.isEx, Bool.false_and, partV, if_pos, if_neg, Nat.mul_one, Nat.one_mul, Nat.zero_add, Nat.add_zero, Int.toNat_natCast, true_and, and_true, hag]) | (with_reducible first | refine condK_dec (fun _ => ?_) fun _ => ?_ | refine grd_dec (fun _ => ?_) fun _ => ?_ | refine egrd_dec (fun _ => ?_) fun _ => ?_))
          obtain ⟨KA, hKA⟩ : ∃ KA, K9.new (.cells [.int .i64 (c : Nat)] 3 .ex) = KA := ⟨_, rfl⟩
          have hxA : HExt K9 KA := by rw [← hKA]; exact (HExt.refl K9).new _
          rw [hKA, ints_src (hGo.ext hxA), appS_some]
          refine optW_app (A := K9) (xs := [(c : Int)]) (ys := mg) (ints_ok .i64) (.inr ⟨K9.nx, .ex, rfl, Nat.le_refl _, by rw [← hKA]; exact Nat.lt_succ_self _, by rw [← hKA]; exact new_get.trans (if_pos rfl), rfl⟩) hxA (by simp only [List.length_singleton]; omega) (by simp only [List.length_singleton]; omega) rfl rfl fun v10 K10 j1 j2 j3 j4 => ?_
          have hob10 : K10.ob r = .map es1 ck1 := (j2.ob r hK9.2.1).trans ((hk9 r hK8.2.1 hrb).trans hob8)
          have hK10 : KnAt A K10 r bs es1 := hK9.mv j2.nx (j2.ob r hK9.2.1) fun l os k h1 h2 => j2.ob l h1
          rcases j1 with ⟨e, _⟩ | ⟨b10, kd10, rfl, m1, m2, m3, m4⟩
          · cases e
          have hfc' : findK 0 (.int .i64 (c : Nat)) es1.toList 0 = some none := hfc
          repeat' (first | (simp (disch := first | omega | (decide +kernel) | (repeat first | assumption | exact HExt.refl _ | refine HExt.set ?_ (by first | omega | (simp only [new_nx, set_nx]; omega)) _ | refine HExt.new ?_ _)) only [↓RD, RU, accW_t, accW_f, isW, ↓putF_get, ↓putF_none, ↓evF_t, ↓evF_c, ↓evF_f, new_nx, set_nx, new_get, set_get, getD_zero, getD_succ, u_not, pop, lop, aop, wop, resL, resV, tupleV, akV, isVal, isCell, Value.cells, ρ0, ρ1, ρ2, ρ3, ρ4, ↓reduceIte, Nat.reduceEqDiff, Nat.reduceAdd, Int.reduceOfNat, Int.reduceNegSucc, reduceCtorEq, ρ5, ρ6, ρ7, ρ8, srcR_c, src_n, src_v, src_s, bnd, lenV, capV, ρ9, ρ10, ρ11, ρ12, ρ13, ρ14, ρ15, ρ16, ρ17, ρ18, ρ19, ρ20, ρ21, ρ22, ρ23, ρ24, Kd.isRo, ρ25, ρ26, bldV, Nat.reduceLeDiff, Int.reduceMul, Int.reduceAdd, Int.reduceSub, Int.reduceToNat, maxLen_eq, zeros_one, appS_some, appV_n, appV_v, appH_t, appH_f, Kd.isEx, ρ27, partV, CH.set_set, lkV, lkR, isKey, mupV, nxtV, ρ28, ρ29, hag, hob10, hfc', mupV, isKey]) | (with_reducible first | refine condK_dec (fun _ => ?_) fun _ => ?_ | refine grd_dec (fun _ => ?_) fun _ => ?_ | refine egrd_dec (fun _ => ?_) fun _ => ?_))
          have hpush : ∀ c' : Nat, fk (es1.push { key := .int .i64 (c : Nat), val := .slice (some ⟨b10, 0, none⟩) (mg.length + 1) (mg.length + 1), born := ck1 }) c' = if c' = c then some (some (es1.toList.length, .slice (some ⟨b10, 0, none⟩) (mg.length + 1) (mg.length + 1))) else fk es1 c' := fun c' => by
            unfold fk
            rw [Array.toList_push, find_push (z := (c : Int)) rfl hki1]
            by_cases e : c' = c
            · subst e
              rw [hfc', if_pos rfl]; simp
            · rw [if_neg e]
              cases hq : findK 0 (.int .i64 (c' : Nat)) es1.toList 0 with
              | none => rfl
              | some y =>
                cases y with
                | none => simp only; rw [if_neg (by omega)]
                | some y => rfl
          have hKf : KnAt A (K10.set r (.map (es1.push { key := .int .i64 (c : Nat), val := .slice (some ⟨b10, 0, none⟩) (mg.length + 1) (mg.length + 1), born := ck1 }) (ck1 + 1))) r bs (es1.push { key := .int .i64 (c : Nat), val := .slice (some ⟨b10, 0, none⟩) (mg.length + 1) (mg.length + 1), born := ck1 }) := by
            obtain ⟨y1, y2, _, y4, y5⟩ := hK10
            refine ⟨y1, y2, ⟨_, set_get.trans (if_pos rfl)⟩, fun e he => ?_, fun c' => ?_⟩
            · rw [Array.toList_push] at he
              rcases List.mem_append.1 he with he | he
              · exact y4 e he
              · simp at he; subst he; exact ⟨_, rfl⟩
            · have hp := hpush c'
              unfold fk at hp
              rw [hp]
              by_cases e : c' = c
              · subst e
                rw [if_pos rfl]
                exact .inr ⟨_, _, _, rfl, hyes, by simp, .inr ⟨b10, kd10, rfl, Nat.le_trans hA9'.nx m1, m2, (set_get.trans (if_neg (by rintro rfl; rw [hob10] at m3; cases m3))).trans m3, m4⟩⟩
              · rw [if_neg e]
                rcases y5 c' with g | ⟨j', u', l', z1, z2, z3, z4⟩
                · exact .inl g
                · refine .inr ⟨j', u', l', z1, z2, z3, ?_⟩
                  rcases z4 with g | ⟨bb, kk, e', q1, q2, q3, q4⟩
                  · exact .inl g
                  · exact .inr ⟨bb, kk, e', q1, q2, (set_get.trans (if_neg (by rintro rfl; rw [hob10] at q3; cases q3))).trans q3, q4⟩
          all_goals exact ⟨(hA9'.trans j2).set hr1 _, Nat.le_trans (Nat.le_trans hA8.nx hn9) j2.nx, fun l os t k h1 h2 => (set_get.trans (if_neg (by rintro rfl; rw [hob] at h2; cases h2))).trans ((j2.ob l (Nat.lt_of_lt_of_le h1 (Nat.le_trans hA8.nx hn9))).trans (hK9c l os t k h1 h2)), by rw [hyes]; rfl, _, hKf, fun c' h => by rw [hpush, if_neg (by omega)]; exact hes1 c' (Nat.le_of_lt h), fun _ => ⟨_, _, by rw [hpush, if_pos rfl]⟩⟩
    · obtain ⟨l', b, kd, _, _, rfl, _⟩ := hK.val hsome
      repeat' (first | (simp (disch := first | omega | (decide +kernel) | (repeat first | assumption | exact HExt.refl _ | refine HExt.set ?_ (by first | omega | (simp only [new_nx, set_nx]; omega)) _ | refine HExt.new ?_ _)) only [↓RD, RU, accW_t, accW_f, isW, ↓putF_get, ↓putF_none, ↓evF_t, ↓evF_c, ↓evF_f, new_nx, set_nx, new_get, set_get, getD_zero, getD_succ, u_not, pop, lop, aop, wop, resL, resV, tupleV, akV, isVal, isCell, Value.cells, ρ0, ρ1, ρ2, ρ3, ρ4, ↓reduceIte, Nat.reduceEqDiff, Nat.reduceAdd, Int.reduceOfNat, Int.reduceNegSucc, reduceCtorEq, ρ5, ρ6, ρ7, ρ8, srcR_c, src_n, src_v, src_s, bnd, lenV, capV, ρ9, ρ10, ρ11, ρ12, ρ13, ρ14, ρ15, ρ16, ρ17, ρ18, ρ19, ρ20, ρ21, ρ22, ρ23, ρ24, Kd.isRo, ρ25, ρ26, bldV, Nat.reduceLeDiff, Int.reduceMul, Int.reduceAdd, Int.reduceSub, Int.reduceToNat, maxLen_eq, zeros_one, appS_some, appV_n, appV_v, appH_t, appH_f, Kd.isEx, ρ27, partV, CH.set_set, lkV, lkR, isKey, mupV, nxtV, ρ28, ρ29, hob, hsome, lkV, lkR, isKey]) | (with_reducible first | refine condK_dec (fun _ => ?_) fun _ => ?_ | refine grd_dec (fun _ => ?_) fun _ => ?_ | refine egrd_dec (fun _ => ?_) fun _ => ?_))
      all_goals exact ⟨hA, Nat.le_refl _, fun _ _ _ _ _ _ => rfl, by rw [ho]; rfl, es, hK, fun _ _ => rfl, fun _ => ⟨j, _, hsome⟩⟩
end Can
end Go.Proofs.Ythmhcpfplmhgnaa
