/- Slide: are memory and roots right? Both sides. -/
import Derived.Test.YtopmheekeooodaaSlMark
namespace Go.Proofs.Ytopmheekeooodaa
namespace Can
open Go Go.RowKit
set_option linter.unusedSimpArgs false
set_option linter.unusedVariables false
set_option maxRecDepth 4000
def rtB (ws : List Int) (top : Int) (roots : List Int) : Bool := match formF ws top with
  | none => false
  | some l => roots.all (refOk top.toNat l)
theorem sl_u64 {H : CH} {p : Option Addr} {c : Nat} {ws : List Int} (h : SlAt 1 (CInt .u64) H p c ws) : ∀ x ∈ ws, 0 ≤ x ∧ x < 18446744073709551616 := by
  intro x hx
  obtain ⟨i, hi, rfl⟩ := List.getElem_of_mem hx
  obtain ⟨l, o, os, e, kd, _, _, _, _, _, _, _, hwf⟩ := h.ints (by omega)
  have := u64_wf (hwf i hi)
  rwa [List.getD_eq_getElem?_getD, List.getElem?_eq_getElem hi] at this
theorem form_range {ws : List Int} {tn : Nat} {l : List Int} (hu : ∀ x ∈ ws, 0 ≤ x ∧ x < 18446744073709551616) (h : formF ws tn = some l) : ∃ ls, l = intsN ls ∧ Form ws tn ls ∧ ∀ x ∈ l, 1 ≤ x ∧ x < tn := by
  obtain ⟨ls, rfl, hF⟩ := form_of hu h
  refine ⟨ls, rfl, hF, fun x hx => ?_⟩
  obtain ⟨a, ha, rfl⟩ := List.mem_map.1 hx
  have := hF.ch.mem a ha
  omega
theorem all_take {α : Type} {l : List α} {f : α → Bool} {i : Nat} (h : i < l.length) (h1 : (l.take i).all f = true) (h2 : f l[i] = true) : (l.take (i + 1)).all f = true := by
  rw [List.take_succ_eq_append_getElem h, List.all_append, h1]; simp [h2]
theorem all_bad {α : Type} {l : List α} {f : α → Bool} {i : Nat} (h : i < l.length) (h2 : f l[i] = false) : l.all f = false := by
  rw [Bool.eq_false_iff]
  intro g
  rw [List.all_eq_true.1 g _ (List.getElem_mem h)] at h2; cases h2
theorem right_wp {H : CH} {p q : Option Addr} {c d : Nat} {ws roots : List Int} (hw : Words H p c ws) (top : Int) (h1 : -9223372036854775808 ≤ top) (h2 : top ≤ 9223372036854775807) (h5 : ws.length ≤ 9223372036854775807) (hrs : SlAt 1 (CInt .u64) H q d roots) :
    WpF (tblG Try.prog LG GG) 15 [.agg #[.slice p ws.length c, .int .i64 top], .slice q roots.length d] H fun v K => v = .bool (rtB ws top roots) ∧ HExt H K := by
  have hu := sl_u64 hw.1
  refine wpF_rG (by rfl) (by kernel_rfl) ?_; (conv in (rF _ _).body => reduce); (conv in (rF _ _).res => reduce)
  repeat' (first | (simp (disch := first | omega | (decide +kernel) | (repeat first | assumption | exact HExt.refl _ | refine HExt.set ?_ (by first | omega | (simp only [new_nx, set_nx]; omega)) _ | refine HExt.new ?_ _)) only [↓RD, RU, accW_t, accW_f, isW, ↓putF_get, ↓putF_none, ↓evF_t, ↓evF_c, ↓evF_f, new_nx, set_nx, new_get, set_get, getD_zero, getD_succ, u_not, pop, lop, aop, wop, resL, resV, tupleV, akV, isVal, isCell, Value.cells, ρ0, ρ1, ρ2, ρ3, ρ4, ↓reduceIte, Nat.reduceEqDiff, Nat.reduceAdd, Int.reduceOfNat, Int.reduceNegSucc, reduceCtorEq, ρ5, ρ6, ρ7, ρ8, srcR_c, src_n, src_v, src_s, bnd, lenV, capV, ρ9, ρ10, ρ11, ρ12, ρ13, ρ14, ρ15, ρ16, ρ17, ρ18, ρ19, ρ20, ρ21, ρ22, ρ23, ρ24, Kd.isRo, ρ25, ρ26, bldV, Nat.reduceLeDiff, Int.reduceMul, Int.reduceAdd, Int.reduceSub, Int.reduceToNat, maxLen_eq, zeros_one, appS_some, appV_n, appV_v, appH_t, appH_f, Kd.isEx, ρ27, partV, CH.set_set, lkV, lkR, isKey, mupV, nxtV, ρ28, ρ29]) | (with_reducible first | refine condK_dec (fun _ => ?_) fun _ => ?_ | refine grd_dec (fun _ => ?_) fun _ => ?_ | refine egrd_dec (fun _ => ?_) fun _ => ?_))
  have hE0 : HExt H (H.new (.cells [.slice p ws.length c, .int .i64 top] 24 .ex)) := by (repeat (first | assumption | exact HExt.refl _ | (refine HExt.set ?_ (by first | omega | (simp only [new_nx, set_nx]; omega)) _) | (refine HExt.new ?_ _)))
  have hb0 : (H.new (.cells [.slice p ws.length c, .int .i64 top] 24 .ex)).ob H.nx = .cells [.slice p ws.length c, .int .i64 top] 24 .ex := by repeat' (first | (simp (disch := first | omega | (decide +kernel) | (repeat first | assumption | exact HExt.refl _ | refine HExt.set ?_ (by first | omega | (simp only [new_nx, set_nx]; omega)) _ | refine HExt.new ?_ _)) only [↓RD, RU, accW_t, accW_f, isW, ↓putF_get, ↓putF_none, ↓evF_t, ↓evF_c, ↓evF_f, new_nx, set_nx, new_get, set_get, getD_zero, getD_succ, u_not, pop, lop, aop, wop, resL, resV, tupleV, akV, isVal, isCell, Value.cells, ρ0, ρ1, ρ2, ρ3, ρ4, ↓reduceIte, Nat.reduceEqDiff, Nat.reduceAdd, Int.reduceOfNat, Int.reduceNegSucc, reduceCtorEq, ρ5, ρ6, ρ7, ρ8, srcR_c, src_n, src_v, src_s, bnd, lenV, capV, ρ9, ρ10, ρ11, ρ12, ρ13, ρ14, ρ15, ρ16, ρ17, ρ18, ρ19, ρ20, ρ21, ρ22, ρ23, ρ24, Kd.isRo, ρ25, ρ26, bldV, Nat.reduceLeDiff, Int.reduceMul, Int.reduceAdd, Int.reduceSub, Int.reduceToNat, maxLen_eq, zeros_one, appS_some, appV_n, appV_v, appH_t, appH_f, Kd.isEx, ρ27, partV, CH.set_set, lkV, lkR, isKey, mupV, nxtV, ρ28, ρ29]) | (with_reducible first | refine condK_dec (fun _ => ?_) fun _ => ?_ | refine grd_dec (fun _ => ?_) fun _ => ?_ | refine egrd_dec (fun _ => ?_) fun _ => ?_))
  refine (check_wp (hw.good hE0) top h1 h2 h5).mono fun v K1 ⟨hv, hx1⟩ => ?_
  subst hv
  have hE1 := hE0.trans hx1
  have hn1 : H.nx + 1 ≤ K1.nx := hx1.nx
  have hb1 : K1.ob H.nx = _ := (hx1.ob _ (by show H.nx < H.nx + 1; omega)).trans hb0
  cases hf : formF ws top with
  | none =>
    have hr : rtB ws top roots = false := by unfold rtB; rw [hf]
    rw [hr]
    repeat' (first | (simp (disch := first | omega | (decide +kernel) | (repeat first | assumption | exact HExt.refl _ | refine HExt.set ?_ (by first | omega | (simp only [new_nx, set_nx]; omega)) _ | refine HExt.new ?_ _)) only [↓RD, RU, accW_t, accW_f, isW, ↓putF_get, ↓putF_none, ↓evF_t, ↓evF_c, ↓evF_f, new_nx, set_nx, new_get, set_get, getD_zero, getD_succ, u_not, pop, lop, aop, wop, resL, resV, tupleV, akV, isVal, isCell, Value.cells, ρ0, ρ1, ρ2, ρ3, ρ4, ↓reduceIte, Nat.reduceEqDiff, Nat.reduceAdd, Int.reduceOfNat, Int.reduceNegSucc, reduceCtorEq, ρ5, ρ6, ρ7, ρ8, srcR_c, src_n, src_v, src_s, bnd, lenV, capV, ρ9, ρ10, ρ11, ρ12, ρ13, ρ14, ρ15, ρ16, ρ17, ρ18, ρ19, ρ20, ρ21, ρ22, ρ23, ρ24, Kd.isRo, ρ25, ρ26, bldV, Nat.reduceLeDiff, Int.reduceMul, Int.reduceAdd, Int.reduceSub, Int.reduceToNat, maxLen_eq, zeros_one, appS_some, appV_n, appV_v, appH_t, appH_f, Kd.isEx, ρ27, partV, CH.set_set, lkV, lkR, isKey, mupV, nxtV, ρ28, ρ29]) | (with_reducible first | refine condK_dec (fun _ => ?_) fun _ => ?_ | refine grd_dec (fun _ => ?_) fun _ => ?_ | refine egrd_dec (fun _ => ?_) fun _ => ?_))
    all_goals first | exact hE1 | exact ⟨rfl, hE1⟩
  | some l =>
    have ht : 1 ≤ top ∧ ws.length ≤ 1048576 ∧ top ≤ ws.length := by
      unfold formF at hf
      split at hf
      · cases hf
      · rename_i hg; omega
    obtain ⟨tn, rfl⟩ := Int.eq_ofNat_of_zero_le (show 0 ≤ top by omega)
    obtain ⟨ls, rfl, hF, hrg⟩ := form_range hu hf
    have hr : rtB ws tn roots = roots.all (refOk tn (intsN ls)) := by unfold rtB; rw [hf]; rfl
    rw [hr]
    have hzb := zeros_bool tn
    repeat' (first | (simp (disch := first | omega | (decide +kernel) | (repeat first | assumption | exact HExt.refl _ | refine HExt.set ?_ (by first | omega | (simp only [new_nx, set_nx]; omega)) _ | refine HExt.new ?_ _)) only [↓RD, RU, accW_t, accW_f, isW, ↓putF_get, ↓putF_none, ↓evF_t, ↓evF_c, ↓evF_f, new_nx, set_nx, new_get, set_get, getD_zero, getD_succ, u_not, pop, lop, aop, wop, resL, resV, tupleV, akV, isVal, isCell, Value.cells, ρ0, ρ1, ρ2, ρ3, ρ4, ↓reduceIte, Nat.reduceEqDiff, Nat.reduceAdd, Int.reduceOfNat, Int.reduceNegSucc, reduceCtorEq, ρ5, ρ6, ρ7, ρ8, srcR_c, src_n, src_v, src_s, bnd, lenV, capV, ρ9, ρ10, ρ11, ρ12, ρ13, ρ14, ρ15, ρ16, ρ17, ρ18, ρ19, ρ20, ρ21, ρ22, ρ23, ρ24, Kd.isRo, ρ25, ρ26, bldV, Nat.reduceLeDiff, Int.reduceMul, Int.reduceAdd, Int.reduceSub, Int.reduceToNat, maxLen_eq, zeros_one, appS_some, appV_n, appV_v, appH_t, appH_f, Kd.isEx, ρ27, partV, CH.set_set, lkV, lkR, isKey, mupV, nxtV, ρ28, ρ29, hb1, hzb]) | (with_reducible first | refine condK_dec (fun _ => ?_) fun _ => ?_ | refine grd_dec (fun _ => ?_) fun _ => ?_ | refine egrd_dec (fun _ => ?_) fun _ => ?_))
    have hEb : HExt H (K1.new (.cells ((List.replicate tn false).map .bool) 4 .ex)) := hE1.new _
    refine (objects_wp (hw.good hEb) tn (by omega) (by omega) h5).mono fun v K2 ⟨hx2, qo, co, hv, hso, _⟩ => ?_
    rw [hf] at hv hso
    simp only [Option.getD_some] at hv hso
    subst hv
    have hn2 : K1.nx + 1 ≤ K2.nx := hx2.nx
    have hb2 : K2.ob H.nx = _ := (hx2.ob _ (by show H.nx < K1.nx + 1; omega)).trans ((new_get.trans (if_neg (by omega))).trans hb1)
    have hg2 : K2.ob K1.nx = .cells ((List.replicate tn false).map .bool) 4 .ex := (hx2.ob _ (by show K1.nx < K1.nx + 1; omega)).trans (new_get.trans (if_pos rfl))
    have hE2 : HExt H K2 := hEb.trans hx2
    have hcl := hF.ch.len
    have hln : (intsN ls).length = ls.length := by simp [intsN]
    repeat' (first | (simp (disch := first | omega | (decide +kernel) | (repeat first | assumption | exact HExt.refl _ | refine HExt.set ?_ (by first | omega | (simp only [new_nx, set_nx]; omega)) _ | refine HExt.new ?_ _)) only [↓RD, RU, accW_t, accW_f, isW, ↓putF_get, ↓putF_none, ↓evF_t, ↓evF_c, ↓evF_f, new_nx, set_nx, new_get, set_get, getD_zero, getD_succ, u_not, pop, lop, aop, wop, resL, resV, tupleV, akV, isVal, isCell, Value.cells, ρ0, ρ1, ρ2, ρ3, ρ4, ↓reduceIte, Nat.reduceEqDiff, Nat.reduceAdd, Int.reduceOfNat, Int.reduceNegSucc, reduceCtorEq, ρ5, ρ6, ρ7, ρ8, srcR_c, src_n, src_v, src_s, bnd, lenV, capV, ρ9, ρ10, ρ11, ρ12, ρ13, ρ14, ρ15, ρ16, ρ17, ρ18, ρ19, ρ20, ρ21, ρ22, ρ23, ρ24, Kd.isRo, ρ25, ρ26, bldV, Nat.reduceLeDiff, Int.reduceMul, Int.reduceAdd, Int.reduceSub, Int.reduceToNat, maxLen_eq, zeros_one, appS_some, appV_n, appV_v, appH_t, appH_f, Kd.isEx, ρ27, partV, CH.set_set, lkV, lkR, isKey, mupV, nxtV, ρ28, ρ29]) | (with_reducible first | refine condK_dec (fun _ => ?_) fun _ => ?_ | refine grd_dec (fun _ => ?_) fun _ => ?_ | refine egrd_dec (fun _ => ?_) fun _ => ?_))
    refine loop_w (fun m fr K => ∃ (i : Nat) (bs : List Bool), m = (intsN ls).length - i ∧ i ≤ (intsN ls).length ∧ fr 21 = .int .i64 (i : Int) ∧ K.nx = K2.nx ∧ (∀ x, x ≠ K1.nx → K.ob x = K2.ob x) ∧ K.ob K1.nx = .cells (bs.map .bool) 4 .ex ∧ bs.length = tn ∧ ∀ j, j < tn → bs.getD j false = decide ((j : Int) ∈ (intsN ls).take i)) (n := (intsN ls).length)
      ⟨0, List.replicate tn false, rfl, Nat.zero_le _, by (repeat' (first | (simp (disch := first | omega | (decide +kernel) | (repeat first | assumption | exact HExt.refl _ | refine HExt.set ?_ (by first | omega | (simp only [new_nx, set_nx]; omega)) _ | refine HExt.new ?_ _)) only [↓RD, RU, accW_t, accW_f, isW, ↓putF_get, ↓putF_none, ↓evF_t, ↓evF_c, ↓evF_f, new_nx, set_nx, new_get, set_get, getD_zero, getD_succ, u_not, pop, lop, aop, wop, resL, resV, tupleV, akV, isVal, isCell, Value.cells, ρ0, ρ1, ρ2, ρ3, ρ4, ↓reduceIte, Nat.reduceEqDiff, Nat.reduceAdd, Int.reduceOfNat, Int.reduceNegSucc, reduceCtorEq, ρ5, ρ6, ρ7, ρ8, srcR_c, src_n, src_v, src_s, bnd, lenV, capV, ρ9, ρ10, ρ11, ρ12, ρ13, ρ14, ρ15, ρ16, ρ17, ρ18, ρ19, ρ20, ρ21, ρ22, ρ23, ρ24, Kd.isRo, ρ25, ρ26, bldV, Nat.reduceLeDiff, Int.reduceMul, Int.reduceAdd, Int.reduceSub, Int.reduceToNat, maxLen_eq, zeros_one, appS_some, appV_n, appV_v, appH_t, appH_f, Kd.isEx, ρ27, partV, CH.set_set, lkV, lkR, isKey, mupV, nxtV, ρ28, ρ29]) | (with_reducible first | refine condK_dec (fun _ => ?_) fun _ => ?_ | refine grd_dec (fun _ => ?_) fun _ => ?_ | refine egrd_dec (fun _ => ?_) fun _ => ?_))); all_goals rfl, rfl, fun _ _ => rfl, hg2, by simp, fun j hj => by rw [getD_rep]; simp⟩ ?_
    rintro m fr K ⟨i, bs, rfl, hi, f21, hn, hko, hkb, hbl, hbs⟩ hag
    have hbK : K.ob H.nx = _ := (hko _ (by omega)).trans hb2
    by_cases hil : i < (intsN ls).length
    case pos =>
      obtain ⟨lo, o, os, e, kd, rfl, hl1, hc, hm, hob, hol, hos, hwf⟩ := hso.ints (by omega)
      have hgi := hos i hil
      have hxm : (intsN ls).getD i 0 ∈ intsN ls := by rw [List.getD_eq_getElem?_getD, List.getElem?_eq_getElem hil]; exact List.getElem_mem hil
      have hxr := hrg _ hxm
      obtain ⟨x, hx⟩ := Int.eq_ofNat_of_zero_le (show 0 ≤ (intsN ls).getD i 0 by omega)
      rw [hx] at hgi hxr
      have hne : lo ≠ K1.nx := fun e => by
        subst e
        rw [hob] at hg2
        cases hg2
        have := hos i hil
        rw [hx] at this
        have h' := List.mem_of_getElem? this
        simp at h'
      have hobK : K.ob lo = .cells os e kd := (hko _ hne).trans hob
      have hset := set_bool (l := bs) (i := x) (x := true) (by omega)
      repeat' (first | (simp (disch := first | omega | (decide +kernel) | (repeat first | assumption | exact HExt.refl _ | refine HExt.set ?_ (by first | omega | (simp only [new_nx, set_nx]; omega)) _ | refine HExt.new ?_ _)) only [↓RD, RU, accW_t, accW_f, isW, ↓putF_get, ↓putF_none, ↓evF_t, ↓evF_c, ↓evF_f, new_nx, set_nx, new_get, set_get, getD_zero, getD_succ, u_not, pop, lop, aop, wop, resL, resV, tupleV, akV, isVal, isCell, Value.cells, ρ0, ρ1, ρ2, ρ3, ρ4, ↓reduceIte, Nat.reduceEqDiff, Nat.reduceAdd, Int.reduceOfNat, Int.reduceNegSucc, reduceCtorEq, ρ5, ρ6, ρ7, ρ8, srcR_c, src_n, src_v, src_s, bnd, lenV, capV, ρ9, ρ10, ρ11, ρ12, ρ13, ρ14, ρ15, ρ16, ρ17, ρ18, ρ19, ρ20, ρ21, ρ22, ρ23, ρ24, Kd.isRo, ρ25, ρ26, bldV, Nat.reduceLeDiff, Int.reduceMul, Int.reduceAdd, Int.reduceSub, Int.reduceToNat, maxLen_eq, zeros_one, appS_some, appV_n, appV_v, appH_t, appH_f, Kd.isEx, ρ27, partV, CH.set_set, lkV, lkR, isKey, mupV, nxtV, ρ28, ρ29, f21, hag, hobK, hgi, hkb, ↓hset, hbl, List.length_map]) | (with_reducible first | refine condK_dec (fun _ => ?_) fun _ => ?_ | refine grd_dec (fun _ => ?_) fun _ => ?_ | refine egrd_dec (fun _ => ?_) fun _ => ?_))
      refine ⟨_, by omega, i + 1, bs.set x true, rfl, by omega, rfl, hn, fun y hy => by rw [if_neg hy]; exact hko y hy, rfl, by rw [List.length_set]; exact hbl, fun j hj => ?_⟩
      have := begins_step (bs := bs) (ls := (intsN ls).take i) (a := x) hbl (by omega) hbs j hj
      rw [this]
      congr 1
      have e : (intsN ls)[i] = (x : Int) := by rw [← hx, List.getD_eq_getElem?_getD, List.getElem?_eq_getElem hil]; rfl
      rw [List.take_succ_eq_append_getElem hil, e]
    case neg =>
    have hie : i = (intsN ls).length := by omega
    subst hie
    rw [List.take_length] at hbs
    have hEK : HExt H K := ⟨by have := hE2.nx; omega, fun x hx => (hko x (by omega)).trans (hE2.ob x hx)⟩
    repeat' (first | (simp (disch := first | omega | (decide +kernel) | (repeat first | assumption | exact HExt.refl _ | refine HExt.set ?_ (by first | omega | (simp only [new_nx, set_nx]; omega)) _ | refine HExt.new ?_ _)) only [↓RD, RU, accW_t, accW_f, isW, ↓putF_get, ↓putF_none, ↓evF_t, ↓evF_c, ↓evF_f, new_nx, set_nx, new_get, set_get, getD_zero, getD_succ, u_not, pop, lop, aop, wop, resL, resV, tupleV, akV, isVal, isCell, Value.cells, ρ0, ρ1, ρ2, ρ3, ρ4, ↓reduceIte, Nat.reduceEqDiff, Nat.reduceAdd, Int.reduceOfNat, Int.reduceNegSucc, reduceCtorEq, ρ5, ρ6, ρ7, ρ8, srcR_c, src_n, src_v, src_s, bnd, lenV, capV, ρ9, ρ10, ρ11, ρ12, ρ13, ρ14, ρ15, ρ16, ρ17, ρ18, ρ19, ρ20, ρ21, ρ22, ρ23, ρ24, Kd.isRo, ρ25, ρ26, bldV, Nat.reduceLeDiff, Int.reduceMul, Int.reduceAdd, Int.reduceSub, Int.reduceToNat, maxLen_eq, zeros_one, appS_some, appV_n, appV_v, appH_t, appH_f, Kd.isEx, ρ27, partV, CH.set_set, lkV, lkR, isKey, mupV, nxtV, ρ28, ρ29, f21, hag]) | (with_reducible first | refine condK_dec (fun _ => ?_) fun _ => ?_ | refine grd_dec (fun _ => ?_) fun _ => ?_ | refine egrd_dec (fun _ => ?_) fun _ => ?_))
    refine loop_w (fun m fr K' => ∃ i : Nat, m = roots.length - i ∧ i ≤ roots.length ∧ fr 31 = .int .i64 (i : Int) ∧ K' = K ∧ (roots.take i).all (refOk tn (intsN ls)) = true) (n := roots.length) ⟨0, rfl, Nat.zero_le _, by (repeat' (first | (simp (disch := first | omega | (decide +kernel) | (repeat first | assumption | exact HExt.refl _ | refine HExt.set ?_ (by first | omega | (simp only [new_nx, set_nx]; omega)) _ | refine HExt.new ?_ _)) only [↓RD, RU, accW_t, accW_f, isW, ↓putF_get, ↓putF_none, ↓evF_t, ↓evF_c, ↓evF_f, new_nx, set_nx, new_get, set_get, getD_zero, getD_succ, u_not, pop, lop, aop, wop, resL, resV, tupleV, akV, isVal, isCell, Value.cells, ρ0, ρ1, ρ2, ρ3, ρ4, ↓reduceIte, Nat.reduceEqDiff, Nat.reduceAdd, Int.reduceOfNat, Int.reduceNegSucc, reduceCtorEq, ρ5, ρ6, ρ7, ρ8, srcR_c, src_n, src_v, src_s, bnd, lenV, capV, ρ9, ρ10, ρ11, ρ12, ρ13, ρ14, ρ15, ρ16, ρ17, ρ18, ρ19, ρ20, ρ21, ρ22, ρ23, ρ24, Kd.isRo, ρ25, ρ26, bldV, Nat.reduceLeDiff, Int.reduceMul, Int.reduceAdd, Int.reduceSub, Int.reduceToNat, maxLen_eq, zeros_one, appS_some, appV_n, appV_v, appH_t, appH_f, Kd.isEx, ρ27, partV, CH.set_set, lkV, lkR, isKey, mupV, nxtV, ρ28, ρ29]) | (with_reducible first | refine condK_dec (fun _ => ?_) fun _ => ?_ | refine grd_dec (fun _ => ?_) fun _ => ?_ | refine egrd_dec (fun _ => ?_) fun _ => ?_))); all_goals rfl, rfl, rfl⟩ ?_
    rintro m fr2 K' ⟨i, rfl, hi, f31, rfl, hall⟩ hag2
    by_cases hir : i < roots.length
    case neg =>
      have : i = roots.length := by omega
      subst this
      rw [List.take_length] at hall
      rw [hall]
      repeat' (first | (simp (disch := first | omega | (decide +kernel) | (repeat first | assumption | exact HExt.refl _ | refine HExt.set ?_ (by first | omega | (simp only [new_nx, set_nx]; omega)) _ | refine HExt.new ?_ _)) only [↓RD, RU, accW_t, accW_f, isW, ↓putF_get, ↓putF_none, ↓evF_t, ↓evF_c, ↓evF_f, new_nx, set_nx, new_get, set_get, getD_zero, getD_succ, u_not, pop, lop, aop, wop, resL, resV, tupleV, akV, isVal, isCell, Value.cells, ρ0, ρ1, ρ2, ρ3, ρ4, ↓reduceIte, Nat.reduceEqDiff, Nat.reduceAdd, Int.reduceOfNat, Int.reduceNegSucc, reduceCtorEq, ρ5, ρ6, ρ7, ρ8, srcR_c, src_n, src_v, src_s, bnd, lenV, capV, ρ9, ρ10, ρ11, ρ12, ρ13, ρ14, ρ15, ρ16, ρ17, ρ18, ρ19, ρ20, ρ21, ρ22, ρ23, ρ24, Kd.isRo, ρ25, ρ26, bldV, Nat.reduceLeDiff, Int.reduceMul, Int.reduceAdd, Int.reduceSub, Int.reduceToNat, maxLen_eq, zeros_one, appS_some, appV_n, appV_v, appH_t, appH_f, Kd.isEx, ρ27, partV, CH.set_set, lkV, lkR, isKey, mupV, nxtV, ρ28, ρ29, f31, hag2, hag]) | (with_reducible first | refine condK_dec (fun _ => ?_) fun _ => ?_ | refine grd_dec (fun _ => ?_) fun _ => ?_ | refine egrd_dec (fun _ => ?_) fun _ => ?_))
      exact hEK
    obtain ⟨lo, o, os, e, kd, rfl, hl1, hc, hm, hob, hol, hos, hwf⟩ := hrs.ints (by omega)
    have hgi := hos i hir
    have hwi := u64_wf (hwf i hir)
    rw [maxLen_eq] at hm
    have hobK := (hEK.ob lo hl1).trans hob
    have e0 : roots.getD i 0 = roots[i] := by rw [List.getD_eq_getElem?_getD, List.getElem?_eq_getElem hir]; rfl
    rw [e0] at hgi hwi
    have hcont := all_take (f := refOk tn (intsN ls)) hir hall
    have hbad := all_bad (f := refOk tn (intsN ls)) hir
    generalize roots[i] = w at hgi hwi hcont hbad
    by_cases k3 : kindF w = 3
    · rw [hbad (by unfold refOk; rw [if_pos k3])]
      repeat' (first | (simp (disch := first | omega | (decide +kernel) | (repeat first | assumption | exact HExt.refl _ | refine HExt.set ?_ (by first | omega | (simp only [new_nx, set_nx]; omega)) _ | refine HExt.new ?_ _)) only [↓RD, RU, accW_t, accW_f, isW, ↓putF_get, ↓putF_none, ↓evF_t, ↓evF_c, ↓evF_f, new_nx, set_nx, new_get, set_get, getD_zero, getD_succ, u_not, pop, lop, aop, wop, resL, resV, tupleV, akV, isVal, isCell, Value.cells, ρ0, ρ1, ρ2, ρ3, ρ4, ↓reduceIte, Nat.reduceEqDiff, Nat.reduceAdd, Int.reduceOfNat, Int.reduceNegSucc, reduceCtorEq, ρ5, ρ6, ρ7, ρ8, srcR_c, src_n, src_v, src_s, bnd, lenV, capV, ρ9, ρ10, ρ11, ρ12, ρ13, ρ14, ρ15, ρ16, ρ17, ρ18, ρ19, ρ20, ρ21, ρ22, ρ23, ρ24, Kd.isRo, ρ25, ρ26, bldV, Nat.reduceLeDiff, Int.reduceMul, Int.reduceAdd, Int.reduceSub, Int.reduceToNat, maxLen_eq, zeros_one, appS_some, appV_n, appV_v, appH_t, appH_f, Kd.isEx, ρ27, partV, CH.set_set, lkV, lkR, isKey, mupV, nxtV, ρ28, ρ29, f31, hag2, hag, hobK, hgi, kind_iff, k3]) | (with_reducible first | refine condK_dec (fun _ => ?_) fun _ => ?_ | refine grd_dec (fun _ => ?_) fun _ => ?_ | refine egrd_dec (fun _ => ?_) fun _ => ?_))
      all_goals exact hEK
    by_cases k0 : kindF w = 0
    case neg =>
      repeat' (first | (simp (disch := first | omega | (decide +kernel) | (repeat first | assumption | exact HExt.refl _ | refine HExt.set ?_ (by first | omega | (simp only [new_nx, set_nx]; omega)) _ | refine HExt.new ?_ _)) only [↓RD, RU, accW_t, accW_f, isW, ↓putF_get, ↓putF_none, ↓evF_t, ↓evF_c, ↓evF_f, new_nx, set_nx, new_get, set_get, getD_zero, getD_succ, u_not, pop, lop, aop, wop, resL, resV, tupleV, akV, isVal, isCell, Value.cells, ρ0, ρ1, ρ2, ρ3, ρ4, ↓reduceIte, Nat.reduceEqDiff, Nat.reduceAdd, Int.reduceOfNat, Int.reduceNegSucc, reduceCtorEq, ρ5, ρ6, ρ7, ρ8, srcR_c, src_n, src_v, src_s, bnd, lenV, capV, ρ9, ρ10, ρ11, ρ12, ρ13, ρ14, ρ15, ρ16, ρ17, ρ18, ρ19, ρ20, ρ21, ρ22, ρ23, ρ24, Kd.isRo, ρ25, ρ26, bldV, Nat.reduceLeDiff, Int.reduceMul, Int.reduceAdd, Int.reduceSub, Int.reduceToNat, maxLen_eq, zeros_one, appS_some, appV_n, appV_v, appH_t, appH_f, Kd.isEx, ρ27, partV, CH.set_set, lkV, lkR, isKey, mupV, nxtV, ρ28, ρ29, f31, hag2, hag, hobK, hgi, kind_iff]) | (with_reducible first | refine condK_dec (fun _ => ?_) fun _ => ?_ | refine grd_dec (fun _ => ?_) fun _ => ?_ | refine egrd_dec (fun _ => ?_) fun _ => ?_))
      all_goals exact ⟨_, by omega, i + 1, rfl, by omega, rfl, hcont (by unfold refOk; rw [if_neg k3, if_neg k0])⟩
    have hnat : nAt w = w / 4 := by unfold nAt; rw [if_pos k0]
    obtain ⟨q, hq4⟩ := Int.eq_ofNat_of_zero_le (show 0 ≤ w / 4 by omega)
    rw [hq4] at hnat
    by_cases hqt : q < tn
    case neg =>
      rw [hbad (by unfold refOk; rw [if_neg k3, if_pos k0, hq4]; exact decide_eq_false (by omega))]
      repeat' (first | (simp (disch := first | omega | (decide +kernel) | (repeat first | assumption | exact HExt.refl _ | refine HExt.set ?_ (by first | omega | (simp only [new_nx, set_nx]; omega)) _ | refine HExt.new ?_ _)) only [↓RD, RU, accW_t, accW_f, isW, ↓putF_get, ↓putF_none, ↓evF_t, ↓evF_c, ↓evF_f, new_nx, set_nx, new_get, set_get, getD_zero, getD_succ, u_not, pop, lop, aop, wop, resL, resV, tupleV, akV, isVal, isCell, Value.cells, ρ0, ρ1, ρ2, ρ3, ρ4, ↓reduceIte, Nat.reduceEqDiff, Nat.reduceAdd, Int.reduceOfNat, Int.reduceNegSucc, reduceCtorEq, ρ5, ρ6, ρ7, ρ8, srcR_c, src_n, src_v, src_s, bnd, lenV, capV, ρ9, ρ10, ρ11, ρ12, ρ13, ρ14, ρ15, ρ16, ρ17, ρ18, ρ19, ρ20, ρ21, ρ22, ρ23, ρ24, Kd.isRo, ρ25, ρ26, bldV, Nat.reduceLeDiff, Int.reduceMul, Int.reduceAdd, Int.reduceSub, Int.reduceToNat, maxLen_eq, zeros_one, appS_some, appV_n, appV_v, appH_t, appH_f, Kd.isEx, ρ27, partV, CH.set_set, lkV, lkR, isKey, mupV, nxtV, ρ28, ρ29, f31, hag2, hag, hobK, hgi, kind_iff, k0, at_iff, hnat, hbK]) | (with_reducible first | refine condK_dec (fun _ => ?_) fun _ => ?_ | refine grd_dec (fun _ => ?_) fun _ => ?_ | refine egrd_dec (fun _ => ?_) fun _ => ?_))
      all_goals exact hEK
    have hgq : (bs.map Value.bool)[q]? = some (.bool (decide ((q : Int) ∈ intsN ls))) := by rw [get_map (d := false) (by omega), hbs q hqt]
    by_cases hmem : (q : Int) ∈ intsN ls
    · rw [decide_eq_true hmem] at hgq
      repeat' (first | (simp (disch := first | omega | (decide +kernel) | (repeat first | assumption | exact HExt.refl _ | refine HExt.set ?_ (by first | omega | (simp only [new_nx, set_nx]; omega)) _ | refine HExt.new ?_ _)) only [↓RD, RU, accW_t, accW_f, isW, ↓putF_get, ↓putF_none, ↓evF_t, ↓evF_c, ↓evF_f, new_nx, set_nx, new_get, set_get, getD_zero, getD_succ, u_not, pop, lop, aop, wop, resL, resV, tupleV, akV, isVal, isCell, Value.cells, ρ0, ρ1, ρ2, ρ3, ρ4, ↓reduceIte, Nat.reduceEqDiff, Nat.reduceAdd, Int.reduceOfNat, Int.reduceNegSucc, reduceCtorEq, ρ5, ρ6, ρ7, ρ8, srcR_c, src_n, src_v, src_s, bnd, lenV, capV, ρ9, ρ10, ρ11, ρ12, ρ13, ρ14, ρ15, ρ16, ρ17, ρ18, ρ19, ρ20, ρ21, ρ22, ρ23, ρ24, Kd.isRo, ρ25, ρ26, bldV, Nat.reduceLeDiff, Int.reduceMul, Int.reduceAdd, Int.reduceSub, Int.reduceToNat, maxLen_eq, zeros_one, appS_some, appV_n, appV_v, appH_t, appH_f, Kd.isEx, ρ27, partV, CH.set_set, lkV, lkR, isKey, mupV, nxtV, ρ28, ρ29, f31, hag2, hag, hobK, hgi, kind_iff, k0, at_iff, hnat, hbK, hkb, hgq]) | (with_reducible first | refine condK_dec (fun _ => ?_) fun _ => ?_ | refine grd_dec (fun _ => ?_) fun _ => ?_ | refine egrd_dec (fun _ => ?_) fun _ => ?_))
      exact ⟨_, by omega, i + 1, rfl, by omega, rfl, hcont (by unfold refOk; rw [if_neg k3, if_pos k0, hq4]; exact decide_eq_true ⟨by omega, hmem⟩)⟩
    · rw [decide_eq_false hmem] at hgq
      rw [hbad (by unfold refOk; rw [if_neg k3, if_pos k0, hq4]; exact decide_eq_false fun h => hmem h.2)]
      repeat' (first | (simp (disch := first | omega | (decide +kernel) | (repeat first | assumption | exact HExt.refl _ | refine HExt.set ?_ (by first | omega | (simp only [new_nx, set_nx]; omega)) _ | refine HExt.new ?_ _)) only [↓RD, RU, accW_t, accW_f, isW, ↓putF_get, ↓putF_none, ↓evF_t, ↓evF_c, ↓evF_f, new_nx, set_nx, new_get, set_get, getD_zero, getD_succ, u_not, pop, lop, aop, wop, resL, resV, tupleV, akV, isVal, isCell, Value.cells, ρ0, ρ1, ρ2, ρ3, ρ4, ↓reduceIte, Nat.reduceEqDiff, Nat.reduceAdd, Int.reduceOfNat, Int.reduceNegSucc, reduceCtorEq, ρ5, ρ6, ρ7, ρ8, srcR_c, src_n, src_v, src_s, bnd, lenV, capV, ρ9, ρ10, ρ11, ρ12, ρ13, ρ14, ρ15, ρ16, ρ17, ρ18, ρ19, ρ20, ρ21, ρ22, ρ23, ρ24, Kd.isRo, ρ25, ρ26, bldV, Nat.reduceLeDiff, Int.reduceMul, Int.reduceAdd, Int.reduceSub, Int.reduceToNat, maxLen_eq, zeros_one, appS_some, appV_n, appV_v, appH_t, appH_f, Kd.isEx, ρ27, partV, CH.set_set, lkV, lkR, isKey, mupV, nxtV, ρ28, ρ29, f31, hag2, hag, hobK, hgi, kind_iff, k0, at_iff, hnat, hbK, hkb, hgq]) | (with_reducible first | refine condK_dec (fun _ => ?_) fun _ => ?_ | refine grd_dec (fun _ => ?_) fun _ => ?_ | refine egrd_dec (fun _ => ?_) fun _ => ?_))
      exact hEK
end Can
end Go.Proofs.Ytopmheekeooodaa
