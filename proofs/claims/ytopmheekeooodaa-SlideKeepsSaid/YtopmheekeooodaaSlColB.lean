/- Slide: the loops over objects of Collect. -/
import Derived.Test.YtopmheekeooodaaSlColA
namespace Go.Proofs.Ytopmheekeooodaa
namespace Can
open Go Go.RowKit
set_option linter.unusedSimpArgs false
set_option linter.unusedVariables false
set_option maxRecDepth 4000
theorem sp_sizes {ws roots : List Int} {tn : Nat} {ls : List Nat} {f : Nat → Int} {G : Nat → Nat → Int} (hF : Form ws tn ls) (hS : Sp ws tn ls f G) (hG : ∀ a ∈ ls, G a 0 = mkF ws roots ls a) : ∀ a ∈ ls, 0 ≤ f a ∧ f a < 18446744073709551616 ∧ hdS (f a) = (szN ws a : Int) ∧ hdT (f a) = (tgN ws a : Int) := fun a ha => by
  have h := hS.ob a ha 0 (by have := hF.ch.mem a ha; omega)
  rw [Nat.add_zero, hG a ha] at h
  rw [h]
  exact mkF_sz hF ha
theorem colA_loop {K3 : CH} {ws roots : List Int} {tn n c b pw pto : Nat} {ls : List Nat} {kd : Kd} {fr : Fr} {f : Nat → Int} (hF : Form ws tn ls) (hn : n = ws.length) (hrow : K3.ob b = .cells (fnW n f) 42 kd) (hro : kd.isRo = false) (hS : Sp ws tn ls f (GA ws roots ls 0))
    (hpw : K3.ob pw = .cells [.slice (some ⟨b, 0, none⟩) n c] 22 .ex) (hpt : K3.ob pto = .cells [.int .i64 1] 3 .ex) (h1 : b < K3.nx) (h2 : pw < K3.nx) (h3 : pto < K3.nx) (d4 : b ≠ pw) (d5 : b ≠ pto) (d6 : pw ≠ pto) (f6 : fr 6 = .pointer (some ⟨pw, 0, none⟩)) (f7 : fr 7 = .pointer (some ⟨pto, 0, none⟩)) :
    WpF (tblG Try.prog LG GG) 27 [.func (.yield (K3.nx + 2)) #[] #[], .pointer (some ⟨K3.nx + 1, 0, none⟩), .pointer (some ⟨K3.nx, 0, none⟩)] (((K3.new (.cells [.slice (some ⟨b, 0, none⟩) n c] 22 .ex)).new (.cells [.int .i64 (tn : Int)] 3 .ex)).new (.loop .ready none fr (10, 0))) fun _ K =>
      K.nx = K3.nx + 3 ∧ (∀ x, x < K3.nx → x ≠ b → x ≠ pto → K.ob x = K3.ob x) ∧ K.ob (K3.nx + 2) = .loop .ready none fr (10, 0) ∧ K.ob pto = .cells [.int .i64 (Pk ws roots ls ls.length : Int)] 3 .ex ∧ ∃ f', K.ob b = .cells (fnW n f') 42 kd ∧ Sp ws tn ls f' (GA ws roots ls ls.length) := by
  obtain ⟨K4, hK4⟩ : ∃ K4, K4 = (((K3.new (.cells [.slice (some ⟨b, 0, none⟩) n c] 22 .ex)).new (.cells [.int .i64 (tn : Int)] 3 .ex)).new (.loop .ready none fr (10, 0))) := ⟨_, rfl⟩
  have hn4 : K4.nx = K3.nx + 3 := by rw [hK4]; rfl
  have hold : ∀ x, x < K3.nx → K4.ob x = K3.ob x := fun x hx => by rw [hK4, new_get, if_neg (by first | omega | (simp only [new_nx, set_nx]; omega)), new_get, if_neg (by first | omega | (simp only [new_nx, set_nx]; omega)), new_get, if_neg (by omega)]
  have k1 : K4.ob K3.nx = .cells [.slice (some ⟨b, 0, none⟩) n c] 22 .ex := by rw [hK4, new_get, if_neg (by first | omega | (simp only [new_nx, set_nx]; omega)), new_get, if_neg (by first | omega | (simp only [new_nx, set_nx]; omega))]; exact new_get.trans (if_pos rfl)
  have k2 : K4.ob (K3.nx + 1) = .cells [.int .i64 (tn : Int)] 3 .ex := by rw [hK4, new_get, if_neg (by first | omega | (simp only [new_nx, set_nx]; omega))]; exact new_get.trans (if_pos rfl)
  have k3 : K4.ob (K3.nx + 2) = .loop .ready none fr (10, 0) := by rw [hK4]; exact new_get.trans (if_pos rfl)
  rw [← hK4]
  have htop := hF.top
  have hlen := hF.len
  refine (objects_it (b := b) (n := n) (c := c) (tn := tn) (sz := szN ws) (fun k K => K.nx = K4.nx ∧ (∀ x, x ≠ b → x ≠ pto → K.ob x = K4.ob x) ∧ K.ob pto = .cells [.int .i64 (Pk ws roots ls k : Int)] 3 .ex ∧ ∃ f', K.ob b = .cells (fnW n f') 42 kd ∧ Sp ws tn ls f' (GA ws roots ls k)) hF.ch (by omega) (by omega) (fun k K hI => ?_) ⟨rfl, fun _ _ _ => rfl, (hold _ h3).trans hpt, f, (hold _ h1).trans hrow, hS⟩ fun k a K hk hI => ?_).mono fun u K hI => ?_
  · obtain ⟨i1, i2, i3, f', i4, i5⟩ := hI
    refine ⟨(i2 _ (by omega) (by omega)).trans k2, (i2 _ (by omega) (by omega)).trans k1, kd, f', i4, fun a ha => ?_⟩
    have := sp_sizes (roots := roots) hF i5 (fun a ha => GA_head ha) a ha
    exact ⟨this.1, this.2.1, this.2.2.1⟩
  · obtain ⟨i1, i2, i3, f', i4, i5⟩ := hI
    refine (colA_round hF hn ((i2 _ (by omega) (by omega)).trans k3) i4 hro i5 ((i2 _ d4.symm d6).trans ((hold _ h2).trans hpw)) i3 (by omega) (by omega) (by omega) d4 d5 d6 f6 f7 hk).mono fun u K' ⟨hu, j1, j2, j3, j4⟩ => ?_
    exact ⟨hu, by omega, fun x g1 g2 => (j2 x g1 g2).trans (i2 x g1 g2), j3, j4⟩
  · obtain ⟨i1, i2, i3, f', i4, i5⟩ := hI
    exact ⟨by omega, fun x hx g1 g2 => (i2 x g1 g2).trans (hold x hx), (i2 _ (by omega) (by omega)).trans k3, i3, f', i4, i5⟩
/-- A round that turns the tagged words of an object. -/
theorem colB_obj {K : CH} {ws roots : List Int} {tn n c b pw pt l k a : Nat} {ls : List Nat} {kd : Kd} {fr : Fr} {f : Nat → Int} (hF : Form ws tn ls) (hu : ∀ x ∈ ws, 0 ≤ x ∧ x < 18446744073709551616) (hn : n = ws.length) (hl : K.ob l = .loop .ready none fr (10, 1)) (hrow : K.ob b = .cells (fnW n f) 42 kd) (hro : kd.isRo = false) (hS : Sp ws tn ls f (GB ws roots ls k 0))
    (hpw : K.ob pw = .cells [.slice (some ⟨b, 0, none⟩) n c] 22 .ex) (hpt : K.ob pt = .cells [.func (.func 19) #[] #[.pointer (some ⟨pw, 0, none⟩)]] 48 .ex) (h1 : b < K.nx) (h2 : pw < K.nx) (h3 : pt < K.nx) (h4 : l < K.nx) (d1 : l ≠ b) (d2 : l ≠ pw) (d3 : l ≠ pt) (d4 : b ≠ pw) (d5 : b ≠ pt) (f6 : fr 6 = .pointer (some ⟨pw, 0, none⟩)) (f9 : fr 9 = .pointer (some ⟨pt, 0, none⟩)) (ha : ls[k]? = some a) :
    WpY (tblG Try.prog LG GG) l [.int .i64 (a : Int)] K fun u K' => u = .bool true ∧ K.nx ≤ K'.nx ∧ (∀ x, x < K.nx → x ≠ b → K'.ob x = K.ob x) ∧ ∃ f', K'.ob b = .cells (fnW n f') 42 kd ∧ Sp ws tn ls f' (GB ws roots ls (k + 1) 0) := by
  have ham : a ∈ ls := List.mem_of_getElem? ha
  have hb := obj_lt2 hF ham
  have hlen := hF.len
  have hfa : f a = mkF ws roots ls a := by
    have := hS.ob a ham 0 (by have := hF.ch.mem a ham; omega)
    rw [Nat.add_zero] at this
    rw [this, GB_head ham]
  have hga := fnW_get (n := n) (f := f) (i := a) (by omega)
  rw [hfa] at hga
  have hbit := mkF_in (roots := roots) hF ham
  have hms := mkF_sz (roots := roots) hF ham
  have hsame : ∀ x, ((K.set l (.loop .busy none fr (10, 1))).set l (.loop .ready none fr (10, 1))).ob x = K.ob x := fun x => by
    by_cases hx : x = l
    · rw [hx, set_get, if_pos rfl, hl]
    · rw [set_get, if_neg hx, set_get, if_neg hx]
  refine wpY_rG (by kernel_rfl) hl (by kernel_rfl) ?_; (conv in (rL _ _).1 => reduce); (conv in (rL _ _).2.1 => reduce); (conv in (rL _ _).2.2 => reduce); simp only [putPs, List.zip_cons_cons, List.zip_nil_right, List.zip_nil_left, List.foldl_cons, List.foldl_nil]
  by_cases hr : Rc ws roots a
  case neg =>
    have hand := hbit.2 hr
    repeat' (first | (simp (disch := first | omega | (decide +kernel) | (repeat first | assumption | exact HExt.refl _ | refine HExt.set ?_ (by first | omega | (simp only [new_nx, set_nx]; omega)) _ | refine HExt.new ?_ _)) only [↓RD, RU, accW_t, accW_f, isW, ↓putF_get, ↓putF_none, ↓evF_t, ↓evF_c, ↓evF_f, new_nx, set_nx, new_get, set_get, getD_zero, getD_succ, u_not, pop, lop, aop, wop, resL, resV, tupleV, akV, isVal, isCell, Value.cells, ρ0, ρ1, ρ2, ρ3, ρ4, ↓reduceIte, Nat.reduceEqDiff, Nat.reduceAdd, Int.reduceOfNat, Int.reduceNegSucc, reduceCtorEq, ρ5, ρ6, ρ7, ρ8, srcR_c, src_n, src_v, src_s, bnd, lenV, capV, ρ9, ρ10, ρ11, ρ12, ρ13, ρ14, ρ15, ρ16, ρ17, ρ18, ρ19, ρ20, ρ21, ρ22, ρ23, ρ24, Kd.isRo, ρ25, ρ26, bldV, Nat.reduceLeDiff, Int.reduceMul, Int.reduceAdd, Int.reduceSub, Int.reduceToNat, maxLen_eq, zeros_one, appS_some, appV_n, appV_v, appH_t, appH_f, Kd.isEx, ρ27, partV, CH.set_set, lkV, lkR, isKey, mupV, nxtV, ρ28, ρ29, f6, f9, roundK_some hl, hrow, hpw, hga, hand]) | (with_reducible first | refine condK_dec (fun _ => ?_) fun _ => ?_ | refine grd_dec (fun _ => ?_) fun _ => ?_ | refine egrd_dec (fun _ => ?_) fun _ => ?_))
    have hK5 : (K.set l (.loop .busy none fr (10, 1))).ob l = .loop .busy none fr (10, 1) := by rw [set_get, if_pos rfl]
    refine (endK_n hK5).2 ?_
    exact ⟨rfl, Nat.le_refl _, fun x _ _ => hsame x, f, (hsame b).trans hrow, hS.congr fun b hb j _ => GB_next hF.ch.nodup ha (fun h => absurd h hr) b hb j⟩
  case pos =>
    have hand := hbit.1 hr
    repeat' (first | (simp (disch := first | omega | (decide +kernel) | (repeat first | assumption | exact HExt.refl _ | refine HExt.set ?_ (by first | omega | (simp only [new_nx, set_nx]; omega)) _ | refine HExt.new ?_ _)) only [↓RD, RU, accW_t, accW_f, isW, ↓putF_get, ↓putF_none, ↓evF_t, ↓evF_c, ↓evF_f, new_nx, set_nx, new_get, set_get, getD_zero, getD_succ, u_not, pop, lop, aop, wop, resL, resV, tupleV, akV, isVal, isCell, Value.cells, ρ0, ρ1, ρ2, ρ3, ρ4, ↓reduceIte, Nat.reduceEqDiff, Nat.reduceAdd, Int.reduceOfNat, Int.reduceNegSucc, reduceCtorEq, ρ5, ρ6, ρ7, ρ8, srcR_c, src_n, src_v, src_s, bnd, lenV, capV, ρ9, ρ10, ρ11, ρ12, ρ13, ρ14, ρ15, ρ16, ρ17, ρ18, ρ19, ρ20, ρ21, ρ22, ρ23, ρ24, Kd.isRo, ρ25, ρ26, bldV, Nat.reduceLeDiff, Int.reduceMul, Int.reduceAdd, Int.reduceSub, Int.reduceToNat, maxLen_eq, zeros_one, appS_some, appV_n, appV_v, appH_t, appH_f, Kd.isEx, ρ27, partV, CH.set_set, lkV, lkR, isKey, mupV, nxtV, ρ28, ρ29, f6, f9, roundK_some hl, hrow, hpw, hga, hand, fields_iff]) | (with_reducible first | refine condK_dec (fun _ => ?_) fun _ => ?_ | refine grd_dec (fun _ => ?_) fun _ => ?_ | refine egrd_dec (fun _ => ?_) fun _ => ?_))
    have main : ∀ (K1 : CH) (fr3 : Fr), K1.nx = K.nx → (∀ x, K1.ob x = if x = l then .loop .busy none fr (10, 1) else K.ob x) → fr3 6 = .pointer (some ⟨pw, 0, none⟩) → fr3 9 = .pointer (some ⟨pt, 0, none⟩) →
        WpF (tblG Try.prog LG GG) 28 [.func (.yield (K1.nx + 2)) #[] #[], .pointer (some ⟨K1.nx, 0, none⟩), .pointer (some ⟨K1.nx + 1, 0, none⟩)] (((K1.new (.cells [.slice (some ⟨b, 0, none⟩) n c] 22 .ex)).new (.cells [.int .i64 (a : Int)] 3 .ex)).new (.loop .ready none fr3 (10, 2))) fun _ K' =>
          K'.nx = K1.nx + 3 ∧ (∀ x, x < K1.nx → x ≠ b → K'.ob x = K1.ob x) ∧ K'.ob (K1.nx + 2) = .loop .ready none fr3 (10, 2) ∧ ∃ f', K'.ob b = .cells (fnW n f') 42 kd ∧ Sp ws tn ls f' (GB ws roots ls k (tgN ws a)) := by
      intro K1 fr3 hn1 ho1 g6 g9
      obtain ⟨K2, hK2⟩ : ∃ K2, K2 = (((K1.new (.cells [.slice (some ⟨b, 0, none⟩) n c] 22 .ex)).new (.cells [.int .i64 (a : Int)] 3 .ex)).new (.loop .ready none fr3 (10, 2))) := ⟨_, rfl⟩
      have hn2 : K2.nx = K1.nx + 3 := by rw [hK2]; rfl
      have hold : ∀ x, x < K1.nx → K2.ob x = K1.ob x := fun x hx => by rw [hK2, new_get, if_neg (by first | omega | (simp only [new_nx, set_nx]; omega)), new_get, if_neg (by first | omega | (simp only [new_nx, set_nx]; omega)), new_get, if_neg (by omega)]
      have k1 : K2.ob K1.nx = .cells [.slice (some ⟨b, 0, none⟩) n c] 22 .ex := by rw [hK2, new_get, if_neg (by first | omega | (simp only [new_nx, set_nx]; omega)), new_get, if_neg (by first | omega | (simp only [new_nx, set_nx]; omega))]; exact new_get.trans (if_pos rfl)
      have k2 : K2.ob (K1.nx + 1) = .cells [.int .i64 (a : Int)] 3 .ex := by rw [hK2, new_get, if_neg (by first | omega | (simp only [new_nx, set_nx]; omega))]; exact new_get.trans (if_pos rfl)
      have k3 : K2.ob (K1.nx + 2) = .loop .ready none fr3 (10, 2) := by rw [hK2]; exact new_get.trans (if_pos rfl)
      have hb2 : K2.ob b = .cells (fnW n f) 42 kd := by rw [hold b (by omega), ho1, if_neg d1.symm]; exact hrow
      have hw2 : K2.ob pw = .cells [.slice (some ⟨b, 0, none⟩) n c] 22 .ex := by rw [hold pw (by omega), ho1, if_neg d2.symm]; exact hpw
      have ht2 : K2.ob pt = .cells [.func (.func 19) #[] #[.pointer (some ⟨pw, 0, none⟩)]] 48 .ex := by rw [hold pt (by omega), ho1, if_neg d3.symm]; exact hpt
      rw [← hK2]
      refine (fields_it (K0 := K2) (a := a) (b := b) (n := n) (c := c) (kd := kd) (f := f) (t := tgN ws a) (fun m K' => K'.nx = K2.nx ∧ (∀ x, x ≠ b → K'.ob x = K2.ob x) ∧ ∃ f', K'.ob b = .cells (fnW n f') 42 kd ∧ Sp ws tn ls f' (GB ws roots ls k m)) (fun m K' hI => (hI.2.1 _ (by omega)).trans k2) ⟨rfl, fun _ _ => rfl, f, hb2, hS⟩ k1 hb2 (by omega) (by omega) (by rw [hfa]; exact ⟨hms.1, hms.2.1⟩) (by rw [hfa]; exact hms.2.2.2) fun m K' hm hI => ?_).mono fun u K' hI => ?_
      · obtain ⟨i1, i2, f', i3, i4⟩ := hI
        refine (colB_round hF hu hn ((i2 _ (by omega)).trans k3) i3 hro i4 ((i2 _ d4.symm).trans hw2) ((i2 _ d5.symm).trans ht2) (by omega) (by omega) (by omega) d4 d5 g6 g9 ha hr hm).mono fun u K'' ⟨hu', j1, j2, j3⟩ => ?_
        exact ⟨hu', by omega, fun x g1 => (j2 x g1).trans (i2 x g1), j3⟩
      · obtain ⟨i1, i2, f', i3, i4⟩ := hI
        exact ⟨by omega, fun x hx g1 => (i2 x g1).trans (hold x hx), (i2 _ (by omega)).trans k3, f', i3, i4⟩
    refine (main (K.set l (.loop .busy none fr (10, 1))) _ rfl (fun x => set_get) (by repeat' (first | (simp (disch := first | omega | (decide +kernel) | (repeat first | assumption | exact HExt.refl _ | refine HExt.set ?_ (by first | omega | (simp only [new_nx, set_nx]; omega)) _ | refine HExt.new ?_ _)) only [↓RD, RU, accW_t, accW_f, isW, ↓putF_get, ↓putF_none, ↓evF_t, ↓evF_c, ↓evF_f, new_nx, set_nx, new_get, set_get, getD_zero, getD_succ, u_not, pop, lop, aop, wop, resL, resV, tupleV, akV, isVal, isCell, Value.cells, ρ0, ρ1, ρ2, ρ3, ρ4, ↓reduceIte, Nat.reduceEqDiff, Nat.reduceAdd, Int.reduceOfNat, Int.reduceNegSucc, reduceCtorEq, ρ5, ρ6, ρ7, ρ8, srcR_c, src_n, src_v, src_s, bnd, lenV, capV, ρ9, ρ10, ρ11, ρ12, ρ13, ρ14, ρ15, ρ16, ρ17, ρ18, ρ19, ρ20, ρ21, ρ22, ρ23, ρ24, Kd.isRo, ρ25, ρ26, bldV, Nat.reduceLeDiff, Int.reduceMul, Int.reduceAdd, Int.reduceSub, Int.reduceToNat, maxLen_eq, zeros_one, appS_some, appV_n, appV_v, appH_t, appH_f, Kd.isEx, ρ27, partV, CH.set_set, lkV, lkR, isKey, mupV, nxtV, ρ28, ρ29, f6]) | (with_reducible first | refine condK_dec (fun _ => ?_) fun _ => ?_ | refine grd_dec (fun _ => ?_) fun _ => ?_ | refine egrd_dec (fun _ => ?_) fun _ => ?_))) (by repeat' (first | (simp (disch := first | omega | (decide +kernel) | (repeat first | assumption | exact HExt.refl _ | refine HExt.set ?_ (by first | omega | (simp only [new_nx, set_nx]; omega)) _ | refine HExt.new ?_ _)) only [↓RD, RU, accW_t, accW_f, isW, ↓putF_get, ↓putF_none, ↓evF_t, ↓evF_c, ↓evF_f, new_nx, set_nx, new_get, set_get, getD_zero, getD_succ, u_not, pop, lop, aop, wop, resL, resV, tupleV, akV, isVal, isCell, Value.cells, ρ0, ρ1, ρ2, ρ3, ρ4, ↓reduceIte, Nat.reduceEqDiff, Nat.reduceAdd, Int.reduceOfNat, Int.reduceNegSucc, reduceCtorEq, ρ5, ρ6, ρ7, ρ8, srcR_c, src_n, src_v, src_s, bnd, lenV, capV, ρ9, ρ10, ρ11, ρ12, ρ13, ρ14, ρ15, ρ16, ρ17, ρ18, ρ19, ρ20, ρ21, ρ22, ρ23, ρ24, Kd.isRo, ρ25, ρ26, bldV, Nat.reduceLeDiff, Int.reduceMul, Int.reduceAdd, Int.reduceSub, Int.reduceToNat, maxLen_eq, zeros_one, appS_some, appV_n, appV_v, appH_t, appH_f, Kd.isEx, ρ27, partV, CH.set_set, lkV, lkR, isKey, mupV, nxtV, ρ28, ρ29, f9]) | (with_reducible first | refine condK_dec (fun _ => ?_) fun _ => ?_ | refine grd_dec (fun _ => ?_) fun _ => ?_ | refine egrd_dec (fun _ => ?_) fun _ => ?_)))).mono fun u K' ⟨i1, i2, i3, f', i4, i5⟩ => ?_
    refine (rangeK_some i3 (by decide)).2 ?_
    simp only [jumpX]
    have i1' : K'.nx = K.nx + 3 := i1
    have i2' : ∀ x, x < K.nx → x ≠ b → K'.ob x = if x = l then .loop .busy none fr (10, 1) else K.ob x := fun x hx g1 => (i2 x hx g1).trans set_get
    repeat' (first | (simp (disch := first | omega | (decide +kernel) | (repeat first | assumption | exact HExt.refl _ | refine HExt.set ?_ (by first | omega | (simp only [new_nx, set_nx]; omega)) _ | refine HExt.new ?_ _)) only [↓RD, RU, accW_t, accW_f, isW, ↓putF_get, ↓putF_none, ↓evF_t, ↓evF_c, ↓evF_f, new_nx, set_nx, new_get, set_get, getD_zero, getD_succ, u_not, pop, lop, aop, wop, resL, resV, tupleV, akV, isVal, isCell, Value.cells, ρ0, ρ1, ρ2, ρ3, ρ4, ↓reduceIte, Nat.reduceEqDiff, Nat.reduceAdd, Int.reduceOfNat, Int.reduceNegSucc, reduceCtorEq, ρ5, ρ6, ρ7, ρ8, srcR_c, src_n, src_v, src_s, bnd, lenV, capV, ρ9, ρ10, ρ11, ρ12, ρ13, ρ14, ρ15, ρ16, ρ17, ρ18, ρ19, ρ20, ρ21, ρ22, ρ23, ρ24, Kd.isRo, ρ25, ρ26, bldV, Nat.reduceLeDiff, Int.reduceMul, Int.reduceAdd, Int.reduceSub, Int.reduceToNat, maxLen_eq, zeros_one, appS_some, appV_n, appV_v, appH_t, appH_f, Kd.isEx, ρ27, partV, CH.set_set, lkV, lkR, isKey, mupV, nxtV, ρ28, ρ29, f6, f9]) | (with_reducible first | refine condK_dec (fun _ => ?_) fun _ => ?_ | refine grd_dec (fun _ => ?_) fun _ => ?_ | refine egrd_dec (fun _ => ?_) fun _ => ?_))
    have hlne : l ≠ K.nx + 1 + 1 := by omega
    refine (endK_n (by rw [set_get, if_neg hlne]; exact (i2' l h4 d1).trans (if_pos rfl))).2 ?_
    refine ⟨rfl, by show K.nx ≤ K'.nx; omega, fun x hx g1 => ?_, f', ?_, i5.congr fun b hb j _ => GB_next hF.ch.nodup ha (fun _ => rfl) b hb j⟩
    · by_cases e : x = l
      · rw [e, set_get, if_pos rfl, hl]
      · rw [set_get, if_neg e, set_get, if_neg (by omega), i2' x hx g1, if_neg e]
    · rw [set_get, if_neg d1.symm, set_get, if_neg (by omega)]; exact i4
theorem colB_loop {K3 : CH} {ws roots : List Int} {tn n c b pw pt : Nat} {ls : List Nat} {kd : Kd} {fr : Fr} {f : Nat → Int} (hF : Form ws tn ls) (hu : ∀ x ∈ ws, 0 ≤ x ∧ x < 18446744073709551616) (hn : n = ws.length) (hrow : K3.ob b = .cells (fnW n f) 42 kd) (hro : kd.isRo = false) (hS : Sp ws tn ls f (GA ws roots ls ls.length))
    (hpw : K3.ob pw = .cells [.slice (some ⟨b, 0, none⟩) n c] 22 .ex) (hpt : K3.ob pt = .cells [.func (.func 19) #[] #[.pointer (some ⟨pw, 0, none⟩)]] 48 .ex) (h1 : b < K3.nx) (h2 : pw < K3.nx) (h3 : pt < K3.nx) (d4 : b ≠ pw) (d5 : b ≠ pt) (f6 : fr 6 = .pointer (some ⟨pw, 0, none⟩)) (f9 : fr 9 = .pointer (some ⟨pt, 0, none⟩)) :
    WpF (tblG Try.prog LG GG) 27 [.func (.yield (K3.nx + 2)) #[] #[], .pointer (some ⟨K3.nx + 1, 0, none⟩), .pointer (some ⟨K3.nx, 0, none⟩)] (((K3.new (.cells [.slice (some ⟨b, 0, none⟩) n c] 22 .ex)).new (.cells [.int .i64 (tn : Int)] 3 .ex)).new (.loop .ready none fr (10, 1))) fun _ K =>
      K3.nx + 3 ≤ K.nx ∧ (∀ x, x < K3.nx → x ≠ b → K.ob x = K3.ob x) ∧ K.ob (K3.nx + 2) = .loop .ready none fr (10, 1) ∧ ∃ f', K.ob b = .cells (fnW n f') 42 kd ∧ Sp ws tn ls f' (GB ws roots ls ls.length 0) := by
  obtain ⟨K4, hK4⟩ : ∃ K4, K4 = (((K3.new (.cells [.slice (some ⟨b, 0, none⟩) n c] 22 .ex)).new (.cells [.int .i64 (tn : Int)] 3 .ex)).new (.loop .ready none fr (10, 1))) := ⟨_, rfl⟩
  have hn4 : K4.nx = K3.nx + 3 := by rw [hK4]; rfl
  have hold : ∀ x, x < K3.nx → K4.ob x = K3.ob x := fun x hx => by rw [hK4, new_get, if_neg (by first | omega | (simp only [new_nx, set_nx]; omega)), new_get, if_neg (by first | omega | (simp only [new_nx, set_nx]; omega)), new_get, if_neg (by omega)]
  have k1 : K4.ob K3.nx = .cells [.slice (some ⟨b, 0, none⟩) n c] 22 .ex := by rw [hK4, new_get, if_neg (by first | omega | (simp only [new_nx, set_nx]; omega)), new_get, if_neg (by first | omega | (simp only [new_nx, set_nx]; omega))]; exact new_get.trans (if_pos rfl)
  have k2 : K4.ob (K3.nx + 1) = .cells [.int .i64 (tn : Int)] 3 .ex := by rw [hK4, new_get, if_neg (by first | omega | (simp only [new_nx, set_nx]; omega))]; exact new_get.trans (if_pos rfl)
  have k3 : K4.ob (K3.nx + 2) = .loop .ready none fr (10, 1) := by rw [hK4]; exact new_get.trans (if_pos rfl)
  rw [← hK4]
  have htop := hF.top
  have hlen := hF.len
  refine (objects_it (b := b) (n := n) (c := c) (tn := tn) (sz := szN ws) (fun k K => K4.nx ≤ K.nx ∧ (∀ x, x < K4.nx → x ≠ b → K.ob x = K4.ob x) ∧ ∃ f', K.ob b = .cells (fnW n f') 42 kd ∧ Sp ws tn ls f' (GB ws roots ls k 0)) hF.ch (by omega) (by omega) (fun k K hI => ?_) ⟨Nat.le_refl _, fun _ _ _ => rfl, f, (hold _ h1).trans hrow, hS.congr fun a _ j _ => (GB_zero a j).symm⟩ fun k a K hk hI => ?_).mono fun u K hI => ?_
  · obtain ⟨i1, i2, f', i4, i5⟩ := hI
    refine ⟨(i2 _ (by omega) (by omega)).trans k2, (i2 _ (by omega) (by omega)).trans k1, kd, f', i4, fun a ha => ?_⟩
    have := sp_sizes (roots := roots) hF i5 (fun a ha => GB_head ha) a ha
    exact ⟨this.1, this.2.1, this.2.2.1⟩
  · obtain ⟨i1, i2, f', i4, i5⟩ := hI
    refine (colB_obj hF hu hn ((i2 _ (by omega) (by omega)).trans k3) i4 hro i5 ((i2 _ (by omega) d4.symm).trans ((hold _ h2).trans hpw)) ((i2 _ (by omega) d5.symm).trans ((hold _ h3).trans hpt)) (by omega) (by omega) (by omega) (by omega) (by omega) (by omega) (by omega) d4 d5 f6 f9 hk).mono fun u K' ⟨hu', j1, j2, j3⟩ => ?_
    exact ⟨hu', by omega, fun x hx g1 => (j2 x (by omega) g1).trans (i2 x hx g1), j3⟩
  · obtain ⟨i1, i2, f', i4, i5⟩ := hI
    exact ⟨by omega, fun x hx g1 => (i2 x (by omega) g1).trans (hold x hx), (i2 _ (by omega) (by omega)).trans k3, f', i4, i5⟩
end Can
end Go.Proofs.Ytopmheekeooodaa
