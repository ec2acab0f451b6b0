/- Slide: Reach of the program. -/
import Derived.Test.YtopmheekeooodaaSlApp
namespace Go.Proofs.Ytopmheekeooodaa
namespace Can
open Go Go.RowKit
set_option linter.unusedSimpArgs false
set_option linter.unusedVariables false
set_option maxRecDepth 4000
theorem mkF_in {ws roots : List Int} {tn : Nat} {ls : List Nat} (hF : Form ws tn ls) {a : Nat} (ha : a ∈ ls) : (Rc ws roots a → svOf (binOp .and 0 (.int .u64 (mkF ws roots ls a)) (.int .u64 9223372036854775808)) = some (.int .u64 9223372036854775808)) ∧ (¬ Rc ws roots a → svOf (binOp .and 0 (.int .u64 (mkF ws roots ls a)) (.int .u64 9223372036854775808)) = some (.int .u64 0)) := by
  have h := head_lt hF ha
  unfold mkF
  constructor
  · intro hr
    rw [if_pos ⟨ha, hr⟩]
    exact and63_hi (by unfold mkB; omega) (by unfold mkB; omega)
  · intro hr
    rw [if_neg (fun e => hr e.2)]
    exact and63_lo (by omega) (by omega)
theorem mkF_sz {ws roots : List Int} {tn : Nat} {ls : List Nat} (hF : Form ws tn ls) {a : Nat} (ha : a ∈ ls) : 0 ≤ mkF ws roots ls a ∧ mkF ws roots ls a < 18446744073709551616 ∧ hdS (mkF ws roots ls a) = (szN ws a : Int) ∧ hdT (mkF ws roots ls a) = (tgN ws a : Int) := by
  have h := head_lt hF ha
  unfold mkF szN tgN hdS hdT mkB
  split <;> omega
theorem rcL_snoc {ws roots : List Int} {ls : List Nat} {k a : Nat} (h : ls[k]? = some a) : (Rc ws roots a → rcL ws roots (ls.take (k + 1)) = rcL ws roots (ls.take k) ++ [a]) ∧ (¬ Rc ws roots a → rcL ws roots (ls.take (k + 1)) = rcL ws roots (ls.take k)) := by
  obtain ⟨hk, rfl⟩ := List.getElem?_eq_some_iff.1 h
  unfold rcL
  rw [List.take_succ_eq_append_getElem hk, List.filter_append]
  constructor
  · intro hr; simp [hr]
  · intro hr; simp [hr]
theorem rcL_len {ws roots : List Int} {ls : List Nat} : (rcL ws roots ls).length ≤ ls.length := by
  unfold rcL; exact List.length_filter_le _ _
/-- A round of Reach. -/
theorem reach_round {K4 K : CH} {ws roots : List Int} {tn n b pw pl l : Nat} {ls : List Nat} {kd : Kd} {fr : Fr} {v : Value} {k a : Nat} (hF : Form ws tn ls) (hn : n = ws.length) (hl : K.ob l = .loop .ready none fr (7, 0)) (hrow : K.ob b = .cells (fnW n (mkF ws roots ls)) 42 kd) (hpw : K.ob pw = .cells [.slice (some ⟨b, 0, none⟩) n n] 22 .ex) (hpl : K.ob pl = .cells [v] 28 .ex)
    (hg : Grw K4 3 1 (ints .i64) K v (intsN (rcL ws roots (ls.take k)))) (hn4 : K4.nx ≤ K.nx) (h1 : b < K4.nx) (h2 : pw < K4.nx) (h3 : pl < K4.nx) (h4 : l < K4.nx) (d1 : l ≠ b) (d2 : l ≠ pw) (d3 : l ≠ pl) (d4 : pl ≠ b) (d5 : pl ≠ pw) (f6 : fr 6 = .pointer (some ⟨pw, 0, none⟩)) (f7 : fr 7 = .pointer (some ⟨pl, 0, none⟩)) (ha : ls[k]? = some a) :
    WpY (tblG Try.prog LG GG) l [.int .i64 (a : Int)] K fun u K' => u = .bool true ∧ K.nx ≤ K'.nx ∧ (∀ x, x < K4.nx → x ≠ pl → K'.ob x = K.ob x) ∧ ∃ v', K'.ob pl = .cells [v'] 28 .ex ∧ Grw K4 3 1 (ints .i64) K' v' (intsN (rcL ws roots (ls.take (k + 1)))) := by
  have ham : a ∈ ls := List.mem_of_getElem? ha
  have hb := obj_lt2 hF ham
  have hlen := hF.len
  have hga := fnW_get (n := n) (f := mkF ws roots ls) (i := a) (by omega)
  have hbit := mkF_in (roots := roots) hF ham
  have hsn := rcL_snoc (ws := ws) (roots := roots) ha
  refine wpY_rG (by kernel_rfl) hl (by kernel_rfl) ?_; (conv in (rL _ _).1 => reduce); (conv in (rL _ _).2.1 => reduce); (conv in (rL _ _).2.2 => reduce); simp only [putPs, List.zip_cons_cons, List.zip_nil_right, List.zip_nil_left, List.foldl_cons, List.foldl_nil]
  by_cases hr : Rc ws roots a
  case neg =>
    have hand := hbit.2 hr
    repeat' (first | (simp (disch := first | omega | (decide +kernel) | (repeat first | assumption | exact HExt.refl _ | refine HExt.set ?_ (by first | omega | (simp only [new_nx, set_nx]; omega)) _ | refine HExt.new ?_ _)) only [↓RD, RU, accW_t, accW_f, isW, ↓putF_get, ↓putF_none, ↓evF_t, ↓evF_c, ↓evF_f, new_nx, set_nx, new_get, set_get, getD_zero, getD_succ, u_not, pop, lop, aop, wop, resL, resV, tupleV, akV, isVal, isCell, Value.cells, ρ0, ρ1, ρ2, ρ3, ρ4, ↓reduceIte, Nat.reduceEqDiff, Nat.reduceAdd, Int.reduceOfNat, Int.reduceNegSucc, reduceCtorEq, ρ5, ρ6, ρ7, ρ8, srcR_c, src_n, src_v, src_s, bnd, lenV, capV, ρ9, ρ10, ρ11, ρ12, ρ13, ρ14, ρ15, ρ16, ρ17, ρ18, ρ19, ρ20, ρ21, ρ22, ρ23, ρ24, Kd.isRo, ρ25, ρ26, bldV, Nat.reduceLeDiff, Int.reduceMul, Int.reduceAdd, Int.reduceSub, Int.reduceToNat, maxLen_eq, zeros_one, appS_some, appV_n, appV_v, appH_t, appH_f, Kd.isEx, ρ27, partV, CH.set_set, lkV, lkR, isKey, mupV, nxtV, ρ28, ρ29, f6, f7, roundK_some hl, hrow, hpw, hga, hand]) | (with_reducible first | refine condK_dec (fun _ => ?_) fun _ => ?_ | refine grd_dec (fun _ => ?_) fun _ => ?_ | refine egrd_dec (fun _ => ?_) fun _ => ?_))
    have hK5 : (K.set l (.loop .busy none fr (7, 0))).ob l = .loop .busy none fr (7, 0) := by rw [set_get, if_pos rfl]
    refine (endK_n hK5).2 ?_
    have hsame : ∀ x, ((K.set l (.loop .busy none fr (7, 0))).set l (.loop .ready none fr (7, 0))).ob x = K.ob x := fun x => by
      by_cases hx : x = l
      · rw [hx, set_get, if_pos rfl, hl]
      · rw [set_get, if_neg hx, set_get, if_neg hx]
    rw [hsn.2 hr]
    exact ⟨rfl, Nat.le_refl _, fun x _ _ => hsame x, v, (hsame pl).trans hpl, hg.mv (fun x _ _ => hsame x) (Nat.le_refl _)⟩
  case pos =>
    have hand := hbit.1 hr
    repeat' (first | (simp (disch := first | omega | (decide +kernel) | (repeat first | assumption | exact HExt.refl _ | refine HExt.set ?_ (by first | omega | (simp only [new_nx, set_nx]; omega)) _ | refine HExt.new ?_ _)) only [↓RD, RU, accW_t, accW_f, isW, ↓putF_get, ↓putF_none, ↓evF_t, ↓evF_c, ↓evF_f, new_nx, set_nx, new_get, set_get, getD_zero, getD_succ, u_not, pop, lop, aop, wop, resL, resV, tupleV, akV, isVal, isCell, Value.cells, ρ0, ρ1, ρ2, ρ3, ρ4, ↓reduceIte, Nat.reduceEqDiff, Nat.reduceAdd, Int.reduceOfNat, Int.reduceNegSucc, reduceCtorEq, ρ5, ρ6, ρ7, ρ8, srcR_c, src_n, src_v, src_s, bnd, lenV, capV, ρ9, ρ10, ρ11, ρ12, ρ13, ρ14, ρ15, ρ16, ρ17, ρ18, ρ19, ρ20, ρ21, ρ22, ρ23, ρ24, Kd.isRo, ρ25, ρ26, bldV, Nat.reduceLeDiff, Int.reduceMul, Int.reduceAdd, Int.reduceSub, Int.reduceToNat, maxLen_eq, zeros_one, appS_some, appV_n, appV_v, appH_t, appH_f, Kd.isEx, ρ27, partV, CH.set_set, lkV, lkR, isKey, mupV, nxtV, ρ28, ρ29, f6, f7, roundK_some hl, hrow, hpw, hga, hand, hpl]) | (with_reducible first | refine condK_dec (fun _ => ?_) fun _ => ?_ | refine grd_dec (fun _ => ?_) fun _ => ?_ | refine egrd_dec (fun _ => ?_) fun _ => ?_))
    have hg1 : Grw K4 3 1 (ints .i64) ((K.set l (.loop .busy none fr (7, 0))).new (.cells [.int .i64 (a : Int)] 3 .ex)) v (intsN (rcL ws roots (ls.take k))) := hg.mv (fun x h5 h6 => by rw [new_get, if_neg (by show ¬ x = K.nx; omega), set_get, if_neg (by omega)]) (by show K.nx ≤ K.nx + 1; omega)
    have hll : (intsN (rcL ws roots (ls.take k))).length ≤ 1048576 := by
      have e1 : (intsN (rcL ws roots (ls.take k))).length = (rcL ws roots (ls.take k)).length := by simp [intsN]
      have := rcL_len (ws := ws) (roots := roots) (ls := ls.take k)
      have : (ls.take k).length ≤ ls.length := by simp; omega
      have := hF.ch.len
      have := hF.top
      omega
    refine app2 hg1 (by show K4.nx ≤ K.nx + 1; omega) (ys := [(a : Int)]) (by simp only [List.length_singleton]; omega) rfl rfl fun v' K' g1 g2 g3 g4 => ?_
    have g2' : K.nx + 1 ≤ K'.nx := g2
    have hlow : ∀ x, x < K4.nx → K'.ob x = if x = l then .loop .busy none fr (7, 0) else K.ob x := fun x hx => by
      rw [g3 x (by show x < K.nx + 1; omega) (hg.notLow hx), new_get, if_neg (by show ¬ x = K.nx; omega), set_get]
    have hpl' : K'.ob pl = .cells [v] 28 .ex := by rw [hlow pl h3, if_neg (by omega)]; exact hpl
    have hv1 : v'.cells.size = 1 ∧ isVal v' = true ∧ v'.cells.toList = [v'] ∧ isCell v' = true := by
      rcases g1 with ⟨_, rfl⟩ | ⟨bb, kk, rfl, _⟩ <;> exact ⟨rfl, rfl, rfl, rfl⟩
    obtain ⟨w1, w2, w3, w4⟩ := hv1
    obtain ⟨q', n', c', hv'⟩ : ∃ q' n' c', v' = .slice q' n' c' := by
      rcases g1 with ⟨_, rfl⟩ | ⟨bb, kk, rfl, _⟩ <;> exact ⟨_, _, _, rfl⟩
    subst hv'
    repeat' (first | (simp (disch := first | omega | (decide +kernel) | (repeat first | assumption | exact HExt.refl _ | refine HExt.set ?_ (by first | omega | (simp only [new_nx, set_nx]; omega)) _ | refine HExt.new ?_ _)) only [↓RD, RU, accW_t, accW_f, isW, ↓putF_get, ↓putF_none, ↓evF_t, ↓evF_c, ↓evF_f, new_nx, set_nx, new_get, set_get, getD_zero, getD_succ, u_not, pop, lop, aop, wop, resL, resV, tupleV, akV, isVal, isCell, Value.cells, ρ0, ρ1, ρ2, ρ3, ρ4, ↓reduceIte, Nat.reduceEqDiff, Nat.reduceAdd, Int.reduceOfNat, Int.reduceNegSucc, reduceCtorEq, ρ5, ρ6, ρ7, ρ8, srcR_c, src_n, src_v, src_s, bnd, lenV, capV, ρ9, ρ10, ρ11, ρ12, ρ13, ρ14, ρ15, ρ16, ρ17, ρ18, ρ19, ρ20, ρ21, ρ22, ρ23, ρ24, Kd.isRo, ρ25, ρ26, bldV, Nat.reduceLeDiff, Int.reduceMul, Int.reduceAdd, Int.reduceSub, Int.reduceToNat, maxLen_eq, zeros_one, appS_some, appV_n, appV_v, appH_t, appH_f, Kd.isEx, ρ27, partV, CH.set_set, lkV, lkR, isKey, mupV, nxtV, ρ28, ρ29, f7, hpl']) | (with_reducible first | refine condK_dec (fun _ => ?_) fun _ => ?_ | refine grd_dec (fun _ => ?_) fun _ => ?_ | refine egrd_dec (fun _ => ?_) fun _ => ?_))
    have hK5 : (K'.set pl (.cells [.slice q' n' c'] 28 .ex)).ob l = .loop .busy none fr (7, 0) := by rw [set_get, if_neg d3, hlow l h4, if_pos rfl]
    refine (endK_n hK5).2 ?_
    rw [hsn.1 hr]
    refine ⟨rfl, by show K.nx ≤ K'.nx; omega, fun x hx hxp => ?_, .slice q' n' c', ?_, ?_⟩
    · by_cases e : x = l
      · rw [e, set_get, if_pos rfl, hl]
      · rw [set_get, if_neg e, set_get, if_neg hxp, hlow x hx, if_neg e]
    · rw [set_get, if_neg d3.symm, set_get, if_pos rfl]
    · have e1 : intsN (rcL ws roots (ls.take k) ++ [a]) = intsN (rcL ws roots (ls.take k)) ++ [(a : Int)] := by simp [intsN]
      rw [e1]
      exact g1.mv (fun x h5 h6 => by rw [set_get, if_neg (by omega), set_get, if_neg (by omega)]) (Nat.le_refl _)
/-- The loop of Reach. -/
theorem reach_loop {K3 : CH} {ws roots : List Int} {tn n b pw : Nat} {ls : List Nat} {kd : Kd} {fr : Fr} (hF : Form ws tn ls) (hn : n = ws.length) (hrow : K3.ob b = .cells (fnW n (mkF ws roots ls)) 42 kd) (hpw : K3.ob pw = .cells [.slice (some ⟨b, 0, none⟩) n n] 22 .ex) (hb : b < K3.nx) (hp : pw < K3.nx) (f6 : fr 6 = .pointer (some ⟨pw, 0, none⟩)) (f7 : fr 7 = .pointer (some ⟨K3.nx, 0, none⟩)) :
    WpF (tblG Try.prog LG GG) 27 [.func (.yield (K3.nx + 3)) #[] #[], .pointer (some ⟨K3.nx + 2, 0, none⟩), .pointer (some ⟨K3.nx + 1, 0, none⟩)] ((((K3.new (.cells [.slice none 0 0] 28 .ex)).new (.cells [.slice (some ⟨b, 0, none⟩) n n] 22 .ex)).new (.cells [.int .i64 (tn : Int)] 3 .ex)).new (.loop .ready none fr (7, 0))) fun _ K =>
      K3.nx + 4 ≤ K.nx ∧ (∀ x, x < K3.nx → K.ob x = K3.ob x) ∧ K.ob (K3.nx + 3) = .loop .ready none fr (7, 0) ∧ ∃ v', K.ob K3.nx = .cells [v'] 28 .ex ∧ Grw K3 3 1 (ints .i64) K v' (intsN (rcL ws roots ls)) ∧ ∀ o n c, v' ≠ .slice (some ⟨K3.nx + 3, o, none⟩) n c := by
  obtain ⟨K4, hK4⟩ : ∃ K4, K4 = ((((K3.new (.cells [.slice none 0 0] 28 .ex)).new (.cells [.slice (some ⟨b, 0, none⟩) n n] 22 .ex)).new (.cells [.int .i64 (tn : Int)] 3 .ex)).new (.loop .ready none fr (7, 0))) := ⟨_, rfl⟩
  have hn4 : K4.nx = K3.nx + 4 := by rw [hK4]; rfl
  have hold : ∀ x, x < K3.nx → K4.ob x = K3.ob x := fun x hx => by rw [hK4, new_get, if_neg (by first | omega | (simp only [new_nx, set_nx]; omega)), new_get, if_neg (by first | omega | (simp only [new_nx, set_nx]; omega)), new_get, if_neg (by first | omega | (simp only [new_nx, set_nx]; omega)), new_get, if_neg (by omega)]
  have k0 : K4.ob K3.nx = .cells [.slice none 0 0] 28 .ex := by rw [hK4, new_get, if_neg (by first | omega | (simp only [new_nx, set_nx]; omega)), new_get, if_neg (by first | omega | (simp only [new_nx, set_nx]; omega)), new_get, if_neg (by first | omega | (simp only [new_nx, set_nx]; omega))]; exact new_get.trans (if_pos rfl)
  have k1 : K4.ob (K3.nx + 1) = .cells [.slice (some ⟨b, 0, none⟩) n n] 22 .ex := by rw [hK4, new_get, if_neg (by first | omega | (simp only [new_nx, set_nx]; omega)), new_get, if_neg (by first | omega | (simp only [new_nx, set_nx]; omega))]; exact new_get.trans (if_pos rfl)
  have k2 : K4.ob (K3.nx + 2) = .cells [.int .i64 (tn : Int)] 3 .ex := by rw [hK4, new_get, if_neg (by first | omega | (simp only [new_nx, set_nx]; omega))]; exact new_get.trans (if_pos rfl)
  have k3 : K4.ob (K3.nx + 3) = .loop .ready none fr (7, 0) := by rw [hK4]; exact new_get.trans (if_pos rfl)
  rw [← hK4]
  have htop := hF.top
  have hlen := hF.len
  refine (objects_it (b := b) (n := n) (c := n) (tn := tn) (sz := szN ws) (fun k K => K4.nx ≤ K.nx ∧ (∀ x, x < K4.nx → x ≠ K3.nx → K.ob x = K4.ob x) ∧ ∃ v, K.ob K3.nx = .cells [v] 28 .ex ∧ Grw K4 3 1 (ints .i64) K v (intsN (rcL ws roots (ls.take k)))) hF.ch (by omega) (by omega) (fun k K hI => ?_) ⟨Nat.le_refl _, fun _ _ _ => rfl, _, k0, by
      have e : rcL ws roots (ls.take 0) = [] := rfl
      rw [e]; exact Grw.nil⟩ fun k a K hk hI => ?_).mono fun u K hI => ?_
  · obtain ⟨i1, i2, _⟩ := hI
    refine ⟨(i2 _ (by omega) (by omega)).trans k2, (i2 _ (by omega) (by omega)).trans k1, kd, mkF ws roots ls, ((i2 _ (by omega) (by omega)).trans (hold _ hb)).trans hrow, fun a ha => ?_⟩
    have := mkF_sz (roots := roots) hF ha
    exact ⟨this.1, this.2.1, this.2.2.1⟩
  · obtain ⟨i1, i2, v, i3, i4⟩ := hI
    refine (reach_round hF hn ((i2 _ (by omega) (by omega)).trans k3) (((i2 _ (by omega) (by omega)).trans (hold _ hb)).trans hrow) (((i2 _ (by omega) (by omega)).trans (hold _ hp)).trans hpw) i3 i4 i1 (by omega) (by omega) (by omega) (by omega) (by omega) (by omega) (by omega) (by omega) (by omega) f6 f7 hk).mono fun u K' ⟨hu, j1, j2, v', j3, j4⟩ => ?_
    exact ⟨hu, by omega, fun x hx hne => (j2 x hx hne).trans (i2 x hx hne), v', j3, j4⟩
  · obtain ⟨i1, i2, v, i3, i4⟩ := hI
    rw [List.take_length] at i4
    exact ⟨by omega, fun x hx => (i2 x (by omega) (by omega)).trans (hold x hx), (i2 _ (by omega) (by omega)).trans k3, v, i3, i4.low (by omega), i4.notLow (by omega)⟩
/-- What Reach answers. -/
def ReachOut (H : CH) (ws : List Int) (top : Int) (roots : List Int) (v : Value) (K : CH) : Prop := HExt H K ∧ ((rtB ws top roots = false ∧ v = .tuple #[.slice none 0 0, .int .i64 3]) ∨
      (rtB ws top roots = true ∧ ∃ ls u, formF ws top = some (intsN ls) ∧ v = .tuple #[u, .int .i64 0] ∧ Grw H 3 1 (ints .i64) K u (intsN (rcL ws roots ls))))
theorem reach_wp {H : CH} {p q : Option Addr} {c d : Nat} {ws roots : List Int} (hw : Words H p c ws) (top : Int) (h1 : -9223372036854775808 ≤ top) (h2 : top ≤ 9223372036854775807) (h5 : ws.length ≤ 9223372036854775807) (hrs : SlAt 1 (CInt .u64) H q d roots) :
    WpF (tblG Try.prog LG GG) 7 [.agg #[.slice p ws.length c, .int .i64 top], .slice q roots.length d] H fun v K => ReachOut H ws top roots v K := by
  have hu := sl_u64 hw.1
  refine wpF_rG (by rfl) (by kernel_rfl) ?_; (conv in (rF _ _).body => reduce); (conv in (rF _ _).res => reduce)
  repeat' (first | (simp (disch := first | omega | (decide +kernel) | (repeat first | assumption | exact HExt.refl _ | refine HExt.set ?_ (by first | omega | (simp only [new_nx, set_nx]; omega)) _ | refine HExt.new ?_ _)) only [↓RD, RU, accW_t, accW_f, isW, ↓putF_get, ↓putF_none, ↓evF_t, ↓evF_c, ↓evF_f, new_nx, set_nx, new_get, set_get, getD_zero, getD_succ, u_not, pop, lop, aop, wop, resL, resV, tupleV, akV, isVal, isCell, Value.cells, ρ0, ρ1, ρ2, ρ3, ρ4, ↓reduceIte, Nat.reduceEqDiff, Nat.reduceAdd, Int.reduceOfNat, Int.reduceNegSucc, reduceCtorEq, ρ5, ρ6, ρ7, ρ8, srcR_c, src_n, src_v, src_s, bnd, lenV, capV, ρ9, ρ10, ρ11, ρ12, ρ13, ρ14, ρ15, ρ16, ρ17, ρ18, ρ19, ρ20, ρ21, ρ22, ρ23, ρ24, Kd.isRo, ρ25, ρ26, bldV, Nat.reduceLeDiff, Int.reduceMul, Int.reduceAdd, Int.reduceSub, Int.reduceToNat, maxLen_eq, zeros_one, appS_some, appV_n, appV_v, appH_t, appH_f, Kd.isEx, ρ27, partV, CH.set_set, lkV, lkR, isKey, mupV, nxtV, ρ28, ρ29]) | (with_reducible first | refine condK_dec (fun _ => ?_) fun _ => ?_ | refine grd_dec (fun _ => ?_) fun _ => ?_ | refine egrd_dec (fun _ => ?_) fun _ => ?_))
  have hE0 : HExt H (H.new (.cells [.slice p ws.length c, .int .i64 top] 24 .ex)) := by (repeat (first | assumption | exact HExt.refl _ | (refine HExt.set ?_ (by first | omega | (simp only [new_nx, set_nx]; omega)) _) | (refine HExt.new ?_ _)))
  have hb0 : (H.new (.cells [.slice p ws.length c, .int .i64 top] 24 .ex)).ob H.nx = .cells [.slice p ws.length c, .int .i64 top] 24 .ex := by repeat' (first | (simp (disch := first | omega | (decide +kernel) | (repeat first | assumption | exact HExt.refl _ | refine HExt.set ?_ (by first | omega | (simp only [new_nx, set_nx]; omega)) _ | refine HExt.new ?_ _)) only [↓RD, RU, accW_t, accW_f, isW, ↓putF_get, ↓putF_none, ↓evF_t, ↓evF_c, ↓evF_f, new_nx, set_nx, new_get, set_get, getD_zero, getD_succ, u_not, pop, lop, aop, wop, resL, resV, tupleV, akV, isVal, isCell, Value.cells, ρ0, ρ1, ρ2, ρ3, ρ4, ↓reduceIte, Nat.reduceEqDiff, Nat.reduceAdd, Int.reduceOfNat, Int.reduceNegSucc, reduceCtorEq, ρ5, ρ6, ρ7, ρ8, srcR_c, src_n, src_v, src_s, bnd, lenV, capV, ρ9, ρ10, ρ11, ρ12, ρ13, ρ14, ρ15, ρ16, ρ17, ρ18, ρ19, ρ20, ρ21, ρ22, ρ23, ρ24, Kd.isRo, ρ25, ρ26, bldV, Nat.reduceLeDiff, Int.reduceMul, Int.reduceAdd, Int.reduceSub, Int.reduceToNat, maxLen_eq, zeros_one, appS_some, appV_n, appV_v, appH_t, appH_f, Kd.isEx, ρ27, partV, CH.set_set, lkV, lkR, isKey, mupV, nxtV, ρ28, ρ29]) | (with_reducible first | refine condK_dec (fun _ => ?_) fun _ => ?_ | refine grd_dec (fun _ => ?_) fun _ => ?_ | refine egrd_dec (fun _ => ?_) fun _ => ?_))
  refine (right_wp (hw.good hE0) top h1 h2 h5 (hrs.good (CInt.good _) hE0)).mono fun v K1 ⟨hv, hx1⟩ => ?_
  subst hv
  have hE1 := hE0.trans hx1
  have hn1 : H.nx + 1 ≤ K1.nx := hx1.nx
  have hb1 : K1.ob H.nx = _ := (hx1.ob _ (by show H.nx < H.nx + 1; omega)).trans hb0
  cases hrt : rtB ws top roots with
  | false =>
    repeat' (first | (simp (disch := first | omega | (decide +kernel) | (repeat first | assumption | exact HExt.refl _ | refine HExt.set ?_ (by first | omega | (simp only [new_nx, set_nx]; omega)) _ | refine HExt.new ?_ _)) only [↓RD, RU, accW_t, accW_f, isW, ↓putF_get, ↓putF_none, ↓evF_t, ↓evF_c, ↓evF_f, new_nx, set_nx, new_get, set_get, getD_zero, getD_succ, u_not, pop, lop, aop, wop, resL, resV, tupleV, akV, isVal, isCell, Value.cells, ρ0, ρ1, ρ2, ρ3, ρ4, ↓reduceIte, Nat.reduceEqDiff, Nat.reduceAdd, Int.reduceOfNat, Int.reduceNegSucc, reduceCtorEq, ρ5, ρ6, ρ7, ρ8, srcR_c, src_n, src_v, src_s, bnd, lenV, capV, ρ9, ρ10, ρ11, ρ12, ρ13, ρ14, ρ15, ρ16, ρ17, ρ18, ρ19, ρ20, ρ21, ρ22, ρ23, ρ24, Kd.isRo, ρ25, ρ26, bldV, Nat.reduceLeDiff, Int.reduceMul, Int.reduceAdd, Int.reduceSub, Int.reduceToNat, maxLen_eq, zeros_one, appS_some, appV_n, appV_v, appH_t, appH_f, Kd.isEx, ρ27, partV, CH.set_set, lkV, lkR, isKey, mupV, nxtV, ρ28, ρ29]) | (with_reducible first | refine condK_dec (fun _ => ?_) fun _ => ?_ | refine grd_dec (fun _ => ?_) fun _ => ?_ | refine egrd_dec (fun _ => ?_) fun _ => ?_))
    exact ⟨hE1, .inl ⟨hrt, rfl⟩⟩
  | true =>
  have hrt0 := hrt
  unfold rtB at hrt
  cases hf : formF ws top with
  | none => rw [hf] at hrt; cases hrt
  | some l =>
  rw [hf] at hrt
  have ht : 1 ≤ top ∧ ws.length ≤ 1048576 ∧ top ≤ ws.length := by
    unfold formF at hf
    split at hf
    · cases hf
    · rename_i hg; omega
  obtain ⟨tn, rfl⟩ := Int.eq_ofNat_of_zero_le (show 0 ≤ top by omega)
  obtain ⟨ls, rfl, hF, hrg⟩ := form_range hu hf
  have hro : RtOk ls roots := fun w hwm => by
    have h := List.all_eq_true.1 hrt w hwm
    have hwu := sl_u64 hrs w hwm
    rw [Int.toNat_natCast] at h
    unfold refOk at h
    split at h
    · cases h
    · rename_i h3
      refine ⟨h3, fun h0 => ?_⟩
      rw [if_pos h0, decide_eq_true_eq] at h
      exact (mem_intsN_adr hwu.1).1 h.2
  have hl2 := hF.len
  have hsrc : srcCells K1 1 (.slice p ws.length c) = some (ws.map (.int .u64), ws.length) := by
    rw [src_ints (hw.good hE1).1, flat_ints]
  have hall : (ws.map (Value.int .u64)).all isCell = true := by simp [isCell]
  repeat' (first | (simp (disch := first | omega | (decide +kernel) | (repeat first | assumption | exact HExt.refl _ | refine HExt.set ?_ (by first | omega | (simp only [new_nx, set_nx]; omega)) _ | refine HExt.new ?_ _)) only [↓RD, RU, accW_t, accW_f, isW, ↓putF_get, ↓putF_none, ↓evF_t, ↓evF_c, ↓evF_f, new_nx, set_nx, new_get, set_get, getD_zero, getD_succ, u_not, pop, lop, aop, wop, resL, resV, tupleV, akV, isVal, isCell, Value.cells, ρ0, ρ1, ρ2, ρ3, ρ4, ↓reduceIte, Nat.reduceEqDiff, Nat.reduceAdd, Int.reduceOfNat, Int.reduceNegSucc, reduceCtorEq, ρ5, ρ6, ρ7, ρ8, srcR_c, src_n, src_v, src_s, bnd, lenV, capV, ρ9, ρ10, ρ11, ρ12, ρ13, ρ14, ρ15, ρ16, ρ17, ρ18, ρ19, ρ20, ρ21, ρ22, ρ23, ρ24, Kd.isRo, ρ25, ρ26, bldV, Nat.reduceLeDiff, Int.reduceMul, Int.reduceAdd, Int.reduceSub, Int.reduceToNat, maxLen_eq, zeros_one, appS_some, appV_n, appV_v, appH_t, appH_f, Kd.isEx, ρ27, partV, CH.set_set, lkV, lkR, isKey, mupV, nxtV, ρ28, ρ29, hb1, hsrc, hall]) | (with_reducible first | refine condK_dec (fun _ => ?_) fun _ => ?_ | refine grd_dec (fun _ => ?_) fun _ => ?_ | refine egrd_dec (fun _ => ?_) fun _ => ?_))
  obtain ⟨K2, hK2⟩ : ∃ K2, K2 = (((K1.new (.cells (ws.map (.int .u64)) 42 .gr)).new (.cells [.slice none 0 0] 22 .ex)).set (K1.nx + 1) (.cells [.slice (some ⟨K1.nx, 0, none⟩) ws.length ws.length] 22 .ex)) := ⟨_, rfl⟩
  have hn2 : K2.nx = K1.nx + 2 := by rw [hK2]; rfl
  have hold2 : ∀ x, x < K1.nx → K2.ob x = K1.ob x := fun x hx => by rw [hK2, set_get, if_neg (by omega), new_get, if_neg (by first | omega | (simp only [new_nx, set_nx]; omega)), new_get, if_neg (by omega)]
  have hE2 : HExt H K2 := ⟨by omega, fun x hx => (hold2 x (by omega)).trans (hE1.ob x hx)⟩
  have hr2 : K2.ob K1.nx = .cells (ws.map (.int .u64)) 42 .gr := by rw [hK2, set_get, if_neg (by omega), new_get, if_neg (by first | omega | (simp only [new_nx, set_nx]; omega)), new_get, if_pos rfl]
  have hp2 : K2.ob (K1.nx + 1) = .cells [.slice (some ⟨K1.nx, 0, none⟩) ws.length ws.length] 22 .ex := by rw [hK2, set_get, if_pos rfl]
  rw [← hK2]
  refine (mark_wp (b := K1.nx) (n := ws.length) (c := ws.length) hF rfl hu hro (hrs.good (CInt.good _) hE2) (fun l o e => ?_) (by omega) hr2 rfl).mono fun v K3 ⟨hn3, ho3, hr3⟩ => ?_
  · rcases hrs with ⟨_, _, h | h | h⟩ | ⟨l', o', _, _, _, h, hl, _⟩
    · rw [h] at e; cases e
    · rw [h] at e; cases e
    · rw [h] at e; cases e
    · rw [h] at e; cases e; omega
  have hb3 : K3.ob H.nx = _ := (ho3 _ (by omega) (by omega)).trans ((hold2 _ (by omega)).trans hb1)
  have hp3 : K3.ob (K1.nx + 1) = _ := (ho3 _ (by omega) (by omega)).trans hp2
  repeat' (first | (simp (disch := first | omega | (decide +kernel) | (repeat first | assumption | exact HExt.refl _ | refine HExt.set ?_ (by first | omega | (simp only [new_nx, set_nx]; omega)) _ | refine HExt.new ?_ _)) only [↓RD, RU, accW_t, accW_f, isW, ↓putF_get, ↓putF_none, ↓evF_t, ↓evF_c, ↓evF_f, new_nx, set_nx, new_get, set_get, getD_zero, getD_succ, u_not, pop, lop, aop, wop, resL, resV, tupleV, akV, isVal, isCell, Value.cells, ρ0, ρ1, ρ2, ρ3, ρ4, ↓reduceIte, Nat.reduceEqDiff, Nat.reduceAdd, Int.reduceOfNat, Int.reduceNegSucc, reduceCtorEq, ρ5, ρ6, ρ7, ρ8, srcR_c, src_n, src_v, src_s, bnd, lenV, capV, ρ9, ρ10, ρ11, ρ12, ρ13, ρ14, ρ15, ρ16, ρ17, ρ18, ρ19, ρ20, ρ21, ρ22, ρ23, ρ24, Kd.isRo, ρ25, ρ26, bldV, Nat.reduceLeDiff, Int.reduceMul, Int.reduceAdd, Int.reduceSub, Int.reduceToNat, maxLen_eq, zeros_one, appS_some, appV_n, appV_v, appH_t, appH_f, Kd.isEx, ρ27, partV, CH.set_set, lkV, lkR, isKey, mupV, nxtV, ρ28, ρ29, hb3, hp3, objects_iff]) | (with_reducible first | refine condK_dec (fun _ => ?_) fun _ => ?_ | refine grd_dec (fun _ => ?_) fun _ => ?_ | refine egrd_dec (fun _ => ?_) fun _ => ?_))
  refine (reach_loop (K3 := K3) (roots := roots) hF rfl hr3 hp3 (by omega) (by omega) (by repeat' (first | (simp (disch := first | omega | (decide +kernel) | (repeat first | assumption | exact HExt.refl _ | refine HExt.set ?_ (by first | omega | (simp only [new_nx, set_nx]; omega)) _ | refine HExt.new ?_ _)) only [↓RD, RU, accW_t, accW_f, isW, ↓putF_get, ↓putF_none, ↓evF_t, ↓evF_c, ↓evF_f, new_nx, set_nx, new_get, set_get, getD_zero, getD_succ, u_not, pop, lop, aop, wop, resL, resV, tupleV, akV, isVal, isCell, Value.cells, ρ0, ρ1, ρ2, ρ3, ρ4, ↓reduceIte, Nat.reduceEqDiff, Nat.reduceAdd, Int.reduceOfNat, Int.reduceNegSucc, reduceCtorEq, ρ5, ρ6, ρ7, ρ8, srcR_c, src_n, src_v, src_s, bnd, lenV, capV, ρ9, ρ10, ρ11, ρ12, ρ13, ρ14, ρ15, ρ16, ρ17, ρ18, ρ19, ρ20, ρ21, ρ22, ρ23, ρ24, Kd.isRo, ρ25, ρ26, bldV, Nat.reduceLeDiff, Int.reduceMul, Int.reduceAdd, Int.reduceSub, Int.reduceToNat, maxLen_eq, zeros_one, appS_some, appV_n, appV_v, appH_t, appH_f, Kd.isEx, ρ27, partV, CH.set_set, lkV, lkR, isKey, mupV, nxtV, ρ28, ρ29]) | (with_reducible first | refine condK_dec (fun _ => ?_) fun _ => ?_ | refine grd_dec (fun _ => ?_) fun _ => ?_ | refine egrd_dec (fun _ => ?_) fun _ => ?_))) (by repeat' (first | (simp (disch := first | omega | (decide +kernel) | (repeat first | assumption | exact HExt.refl _ | refine HExt.set ?_ (by first | omega | (simp only [new_nx, set_nx]; omega)) _ | refine HExt.new ?_ _)) only [↓RD, RU, accW_t, accW_f, isW, ↓putF_get, ↓putF_none, ↓evF_t, ↓evF_c, ↓evF_f, new_nx, set_nx, new_get, set_get, getD_zero, getD_succ, u_not, pop, lop, aop, wop, resL, resV, tupleV, akV, isVal, isCell, Value.cells, ρ0, ρ1, ρ2, ρ3, ρ4, ↓reduceIte, Nat.reduceEqDiff, Nat.reduceAdd, Int.reduceOfNat, Int.reduceNegSucc, reduceCtorEq, ρ5, ρ6, ρ7, ρ8, srcR_c, src_n, src_v, src_s, bnd, lenV, capV, ρ9, ρ10, ρ11, ρ12, ρ13, ρ14, ρ15, ρ16, ρ17, ρ18, ρ19, ρ20, ρ21, ρ22, ρ23, ρ24, Kd.isRo, ρ25, ρ26, bldV, Nat.reduceLeDiff, Int.reduceMul, Int.reduceAdd, Int.reduceSub, Int.reduceToNat, maxLen_eq, zeros_one, appS_some, appV_n, appV_v, appH_t, appH_f, Kd.isEx, ρ27, partV, CH.set_set, lkV, lkR, isKey, mupV, nxtV, ρ28, ρ29]) | (with_reducible first | refine condK_dec (fun _ => ?_) fun _ => ?_ | refine grd_dec (fun _ => ?_) fun _ => ?_ | refine egrd_dec (fun _ => ?_) fun _ => ?_)))).mono fun u K5 ⟨i1, i2, i3, v', i4, i5, i6⟩ => ?_
  refine (rangeK_some i3 (by decide)).2 ?_
  simp only [jumpX]
  repeat' (first | (simp (disch := first | omega | (decide +kernel) | (repeat first | assumption | exact HExt.refl _ | refine HExt.set ?_ (by first | omega | (simp only [new_nx, set_nx]; omega)) _ | refine HExt.new ?_ _)) only [↓RD, RU, accW_t, accW_f, isW, ↓putF_get, ↓putF_none, ↓evF_t, ↓evF_c, ↓evF_f, new_nx, set_nx, new_get, set_get, getD_zero, getD_succ, u_not, pop, lop, aop, wop, resL, resV, tupleV, akV, isVal, isCell, Value.cells, ρ0, ρ1, ρ2, ρ3, ρ4, ↓reduceIte, Nat.reduceEqDiff, Nat.reduceAdd, Int.reduceOfNat, Int.reduceNegSucc, reduceCtorEq, ρ5, ρ6, ρ7, ρ8, srcR_c, src_n, src_v, src_s, bnd, lenV, capV, ρ9, ρ10, ρ11, ρ12, ρ13, ρ14, ρ15, ρ16, ρ17, ρ18, ρ19, ρ20, ρ21, ρ22, ρ23, ρ24, Kd.isRo, ρ25, ρ26, bldV, Nat.reduceLeDiff, Int.reduceMul, Int.reduceAdd, Int.reduceSub, Int.reduceToNat, maxLen_eq, zeros_one, appS_some, appV_n, appV_v, appH_t, appH_f, Kd.isEx, ρ27, partV, CH.set_set, lkV, lkR, isKey, mupV, nxtV, ρ28, ρ29, i4]) | (with_reducible first | refine condK_dec (fun _ => ?_) fun _ => ?_ | refine grd_dec (fun _ => ?_) fun _ => ?_ | refine egrd_dec (fun _ => ?_) fun _ => ?_))
  refine ⟨⟨by show H.nx ≤ K5.nx; omega, fun x hx => ?_⟩, .inr ⟨hrt0, ls, v', hf, rfl, ?_⟩⟩
  · rw [set_get, if_neg (by omega), i2 x (by omega), ho3 x (by omega) (by omega)]
    exact hE2.ob x hx
  · rcases i5 with g | ⟨bb, kk, e, g1, g2, g3, g4⟩
    · exact .inl g
    · refine .inr ⟨bb, kk, e, by omega, g2, ?_, g4⟩
      rw [set_get, if_neg]
      · exact g3
      · intro e'
        exact i6 _ _ _ (e' ▸ e)
end Can
end Go.Proofs.Ytopmheekeooodaa
