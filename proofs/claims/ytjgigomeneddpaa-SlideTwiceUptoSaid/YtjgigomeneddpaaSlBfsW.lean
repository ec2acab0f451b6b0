/- Slide: the reference's Reach, walked. -/
import Derived.Test.YtjgigomeneddpaaSlBfs
namespace Go.Proofs.Ytjgigomeneddpaa
namespace Can
open Go Go.RowKit
set_option linter.unusedSimpArgs false
set_option linter.unusedVariables false
set_option maxRecDepth 4000
/-- What the queue's loop keeps. -/
structure BI (ws roots : List Int) (tn : Nat) (ls : List Nat) (bs : List Bool) (pend : List Int) : Prop where
  len : bs.length = tn
  rc : ∀ a, a < tn → bs.getD a false = true → Rc ws roots a
  good : ∀ w ∈ pend, (0 ≤ w ∧ w < 18446744073709551616) ∧ kindF w ≠ 3 ∧ (kindF w = 0 → Rc ws roots (adr w))
  rt : ∀ w ∈ roots, kindF w = 0 → bs.getD (adr w) false = true ∨ w ∈ pend
  cl : ∀ a, a < tn → bs.getD a false = true → ∀ i, i < tgN ws a → kindF (wd ws (a + 2 + i)) = 0 → bs.getD (adr (wd ws (a + 2 + i))) false = true ∨ wd ws (a + 2 + i) ∈ pend
  bnd : pend.length + rest ws ls bs ≤ 17592187092480
theorem BI.drop {ws roots : List Int} {tn : Nat} {ls : List Nat} {bs : List Bool} {w : Int} {pend : List Int} (h : BI ws roots tn ls bs (w :: pend)) (hw : kindF w = 0 → bs.getD (adr w) false = true) : BI ws roots tn ls bs pend := by
  refine ⟨h.len, h.rc, fun x hx => h.good x (List.mem_cons_of_mem _ hx), fun x hx hk => ?_, fun a ha hb i hi hk => ?_, ?_⟩
  · rcases h.rt x hx hk with h1 | h1
    · exact .inl h1
    · rcases List.mem_cons.1 h1 with rfl | h1
      · exact .inl (hw hk)
      · exact .inr h1
  · rcases h.cl a ha hb i hi hk with h1 | h1
    · exact .inl h1
    · rcases List.mem_cons.1 h1 with h1 | h1
      · rw [h1] at hk ⊢; exact .inl (hw hk)
      · exact .inr h1
  · have := h.bnd
    simp only [List.length_cons] at this; omega
theorem BI.mark {ws roots : List Int} {tn : Nat} {ls : List Nat} {bs : List Bool} {w : Int} {pend : List Int} (hF : Form ws tn ls) (hr : RtOk ls roots) (hu : ∀ x ∈ ws, 0 ≤ x ∧ x < 18446744073709551616) (h : BI ws roots tn ls bs (w :: pend)) (hk : kindF w = 0) (hb : bs.getD (adr w) false = false) :
    BI ws roots tn ls (bs.set (adr w) true) (pend ++ flds ws (adr w)) ∧ (pend ++ flds ws (adr w)).length + rest ws ls (bs.set (adr w) true) < (w :: pend).length + rest ws ls bs := by
  have hrc := (h.good w (List.mem_cons_self ..)).2.2 hk
  have hm := hrc.mem hF hr
  have hlt := hF.ch.mem _ hm
  have hl : adr w < bs.length := by rw [h.len]; omega
  have hset : ∀ i, (bs.set (adr w) true).getD i false = if i = adr w then true else bs.getD i false := fun i => getD_setb hl
  have hrest := rest_set (ws := ws) hl hb hF.ch.nodup hm
  have hbnd := h.bnd
  have hlen : (pend ++ flds ws (adr w)).length = pend.length + tgN ws (adr w) := by rw [List.length_append, flds_len]
  have hup : ∀ i, bs.getD i false = true → (bs.set (adr w) true).getD i false = true := fun i hi => by rw [hset]; split; rfl; exact hi
  simp only [List.length_cons] at hbnd ⊢
  refine ⟨⟨by rw [List.length_set]; exact h.len, fun a ha hba => ?_, fun x hx => ?_, fun x hx hkx => ?_, fun a ha hba i hi hki => ?_, by omega⟩, by omega⟩
  · rw [hset] at hba
    split at hba
    · rename_i e; rw [e]; exact hrc
    · exact h.rc a ha hba
  · rcases List.mem_append.1 hx with hx | hx
    · exact h.good x (List.mem_cons_of_mem _ hx)
    · obtain ⟨i, hi, rfl⟩ := mem_flds.1 hx
      have := hF.fld _ hm i hi
      exact ⟨wd_nonneg hu _, this.1, fun h0 => .step hrc hi h0⟩
  · rcases h.rt x hx hkx with h1 | h1
    · exact .inl (hup _ h1)
    · rcases List.mem_cons.1 h1 with rfl | h1
      · left; rw [hset, if_pos rfl]
      · exact .inr (List.mem_append_left _ h1)
  · rw [hset] at hba
    by_cases e : a = adr w
    · subst e
      exact .inr (List.mem_append_right _ (mem_flds.2 ⟨i, hi, rfl⟩))
    · rw [if_neg e] at hba
      rcases h.cl a ha hba i hi hki with h1 | h1
      · exact .inl (hup _ h1)
      · rcases List.mem_cons.1 h1 with h1 | h1
        · left; rw [h1, hset, if_pos rfl]
        · exact .inr (List.mem_append_left _ h1)
theorem BI.done {ws roots : List Int} {tn : Nat} {ls : List Nat} {bs : List Bool} (hF : Form ws tn ls) (hr : RtOk ls roots) (h : BI ws roots tn ls bs []) (a : Nat) (ha : a < tn) : bs.getD a false = true ↔ Rc ws roots a := by
  refine ⟨h.rc a ha, fun hc => ?_⟩
  clear ha
  induction hc with
  | root hw hk =>
    rcases h.rt _ hw hk with h1 | h1
    · exact h1
    · cases h1
  | @step b i hb hi hk ih =>
    have := hF.ch.mem b (hb.mem hF hr)
    rcases h.cl b (by omega) ih i hi hk with h1 | h1
    · exact h1
    · cases h1
set_option maxHeartbeats 1000000 in
theorem rreach_wp {H : CH} {p q : Option Addr} {c d : Nat} {ws roots : List Int} {tn : Nat} {ls : List Nat} (hw : Words H p c ws) (hF : Form ws tn ls) (hr : RtOk ls roots) (hrs : SlAt 1 (CInt .u64) H q d roots) (hrl : roots.length ≤ 17592186043904) :
    WpF (tblG Try.prog LG GG) 18 [.agg #[.slice p ws.length c, .int .i64 (tn : Int)], .slice q roots.length d] H fun u K => HExt H K ∧ Grw H 3 1 (ints .i64) K u (intsN (rcL ws roots ls)) := by
  have hu := sl_u64 hw.1
  have hlen := hF.len
  have htop := hF.top
  have hzb := zeros_bool tn
  have hall : (roots.map (Value.int .u64)).all isCell = true := by simp [isCell]
  obtain ⟨l, o, os, e, kd, rfl, hl1, hc, hm, hob, hol, hos, hwf⟩ := hw.1.ints (by omega)
  have hokA : ∀ K : CH, K.ob l = H.ob l → okSl K 50 (.slice (some ⟨l, o, none⟩) ws.length c) = true := fun K h => okSl_ext h hw.2
  refine wpF_rG (by rfl) (by kernel_rfl) ?_; (conv in (rF _ _).body => reduce); (conv in (rF _ _).res => reduce)
  repeat' (first | (simp (disch := first | omega | (decide +kernel) | (repeat (first | assumption | exact HExt.refl _ | (refine HExt.set ?_ (by first | omega | (simp only [new_nx, set_nx]; omega)) _) | (refine HExt.new ?_ _)))) only [↓RD, RU, accW_t, accW_f, isW, ↓putF_get, ↓putF_none, ↓evF_t, ↓evF_c, ↓evF_f, new_nx, set_nx, new_get, set_get, getD_zero, getD_succ, u_not, pop, lop, aop, wop, resL, resV, tupleV, akV, isVal, isCell, Value.cells, List.map_cons, List.map_nil, Bool.not_true, Bool.not_false, Option.map_some, ↓reduceIte, Nat.reduceEqDiff, Nat.reduceAdd, Int.reduceOfNat, Int.reduceNegSucc, reduceCtorEq, List.getElem?_cons_zero, List.getElem?_cons_succ, List.length_cons, List.length_nil, srcR_c, src_n, src_v, src_s, bnd, lenV, capV, Option.isSome_none, Option.isNone_none, Option.isSome_some, Option.isNone_some, Bool.true_or, Bool.false_or, List.take_succ_cons, List.take_zero, List.drop_succ_cons, List.drop_zero, List.cons_append, List.nil_append, List.drop_nil, List.all_cons, List.all_nil, Bool.true_and, Kd.isRo, List.size_toArray, List.toList_toArray, bldV, Nat.reduceLeDiff, Int.reduceMul, Int.reduceAdd, Int.reduceSub, Int.reduceToNat, maxLen_eq, zeros_one, appS_some, appV_n, appV_v, appH_t, appH_f, Kd.isEx, Bool.false_and, partV, Nat.add_zero, Int.toNat_natCast, hzb]) | (with_reducible refine condK_dec (fun _ => ?_) (fun _ => ?_)) | (with_reducible refine grd_dec (fun _ => ?_) (fun _ => ?_)) | (with_reducible refine egrd_dec (fun _ => ?_) (fun _ => ?_)))
  refine copy_gr (K := H) hrs (by (repeat (first | assumption | exact HExt.refl _ | (refine HExt.set ?_ (by first | omega | (simp only [new_nx, set_nx]; omega)) _) | (refine HExt.new ?_ _)))) (by omega) (by omega) (l := H.nx + 2) (by repeat' (first | (simp (disch := first | omega | (decide +kernel) | (repeat (first | assumption | exact HExt.refl _ | (refine HExt.set ?_ (by first | omega | (simp only [new_nx, set_nx]; omega)) _) | (refine HExt.new ?_ _)))) only [↓RD, RU, accW_t, accW_f, isW, ↓putF_get, ↓putF_none, ↓evF_t, ↓evF_c, ↓evF_f, new_nx, set_nx, new_get, set_get, getD_zero, getD_succ, u_not, pop, lop, aop, wop, resL, resV, tupleV, akV, isVal, isCell, Value.cells, List.map_cons, List.map_nil, Bool.not_true, Bool.not_false, Option.map_some, ↓reduceIte, Nat.reduceEqDiff, Nat.reduceAdd, Int.reduceOfNat, Int.reduceNegSucc, reduceCtorEq, List.getElem?_cons_zero, List.getElem?_cons_succ, List.length_cons, List.length_nil, srcR_c, src_n, src_v, src_s, bnd, lenV, capV, Option.isSome_none, Option.isNone_none, Option.isSome_some, Option.isNone_some, Bool.true_or, Bool.false_or, List.take_succ_cons, List.take_zero, List.drop_succ_cons, List.drop_zero, List.cons_append, List.nil_append, List.drop_nil, List.all_cons, List.all_nil, Bool.true_and, Kd.isRo, List.size_toArray, List.toList_toArray, bldV, Nat.reduceLeDiff, Int.reduceMul, Int.reduceAdd, Int.reduceSub, Int.reduceToNat, maxLen_eq, zeros_one, appS_some, appV_n, appV_v, appH_t, appH_f, Kd.isEx, Bool.false_and, partV, Nat.add_zero, Int.toNat_natCast]) | (with_reducible refine condK_dec (fun _ => ?_) (fun _ => ?_)) | (with_reducible refine grd_dec (fun _ => ?_) (fun _ => ?_)) | (with_reducible refine egrd_dec (fun _ => ?_) (fun _ => ?_))); rfl) (by first | omega | (simp only [new_nx, set_nx]; omega)) fun x0 c0 K1 kd0 g1 g2 g3 g4 g5 g6 g7 g8 => ?_
  have g1' : H.nx + 3 ≤ K1.nx := g1
  have hb1 : K1.ob H.nx = .cells [.slice (some ⟨l, o, none⟩) ws.length c, .int .i64 (tn : Int)] 24 .ex := (g2 _ (by first | omega | (simp only [new_nx, set_nx]; omega))).trans (by repeat' (first | (simp (disch := first | omega | (decide +kernel) | (repeat (first | assumption | exact HExt.refl _ | (refine HExt.set ?_ (by first | omega | (simp only [new_nx, set_nx]; omega)) _) | (refine HExt.new ?_ _)))) only [↓RD, RU, accW_t, accW_f, isW, ↓putF_get, ↓putF_none, ↓evF_t, ↓evF_c, ↓evF_f, new_nx, set_nx, new_get, set_get, getD_zero, getD_succ, u_not, pop, lop, aop, wop, resL, resV, tupleV, akV, isVal, isCell, Value.cells, List.map_cons, List.map_nil, Bool.not_true, Bool.not_false, Option.map_some, ↓reduceIte, Nat.reduceEqDiff, Nat.reduceAdd, Int.reduceOfNat, Int.reduceNegSucc, reduceCtorEq, List.getElem?_cons_zero, List.getElem?_cons_succ, List.length_cons, List.length_nil, srcR_c, src_n, src_v, src_s, bnd, lenV, capV, Option.isSome_none, Option.isNone_none, Option.isSome_some, Option.isNone_some, Bool.true_or, Bool.false_or, List.take_succ_cons, List.take_zero, List.drop_succ_cons, List.drop_zero, List.cons_append, List.nil_append, List.drop_nil, List.all_cons, List.all_nil, Bool.true_and, Kd.isRo, List.size_toArray, List.toList_toArray, bldV, Nat.reduceLeDiff, Int.reduceMul, Int.reduceAdd, Int.reduceSub, Int.reduceToNat, maxLen_eq, zeros_one, appS_some, appV_n, appV_v, appH_t, appH_f, Kd.isEx, Bool.false_and, partV, Nat.add_zero, Int.toNat_natCast]) | (with_reducible refine condK_dec (fun _ => ?_) (fun _ => ?_)) | (with_reducible refine grd_dec (fun _ => ?_) (fun _ => ?_)) | (with_reducible refine egrd_dec (fun _ => ?_) (fun _ => ?_))))
  have hi1 : K1.ob (H.nx + 1) = .cells ((List.replicate tn false).map .bool) 4 .ex := (g2 _ (by first | omega | (simp only [new_nx, set_nx]; omega))).trans (by repeat' (first | (simp (disch := first | omega | (decide +kernel) | (repeat (first | assumption | exact HExt.refl _ | (refine HExt.set ?_ (by first | omega | (simp only [new_nx, set_nx]; omega)) _) | (refine HExt.new ?_ _)))) only [↓RD, RU, accW_t, accW_f, isW, ↓putF_get, ↓putF_none, ↓evF_t, ↓evF_c, ↓evF_f, new_nx, set_nx, new_get, set_get, getD_zero, getD_succ, u_not, pop, lop, aop, wop, resL, resV, tupleV, akV, isVal, isCell, Value.cells, List.map_cons, List.map_nil, Bool.not_true, Bool.not_false, Option.map_some, ↓reduceIte, Nat.reduceEqDiff, Nat.reduceAdd, Int.reduceOfNat, Int.reduceNegSucc, reduceCtorEq, List.getElem?_cons_zero, List.getElem?_cons_succ, List.length_cons, List.length_nil, srcR_c, src_n, src_v, src_s, bnd, lenV, capV, Option.isSome_none, Option.isNone_none, Option.isSome_some, Option.isNone_some, Bool.true_or, Bool.false_or, List.take_succ_cons, List.take_zero, List.drop_succ_cons, List.drop_zero, List.cons_append, List.nil_append, List.drop_nil, List.all_cons, List.all_nil, Bool.true_and, Kd.isRo, List.size_toArray, List.toList_toArray, bldV, Nat.reduceLeDiff, Int.reduceMul, Int.reduceAdd, Int.reduceSub, Int.reduceToNat, maxLen_eq, zeros_one, appS_some, appV_n, appV_v, appH_t, appH_f, Kd.isEx, Bool.false_and, partV, Nat.add_zero, Int.toNat_natCast]) | (with_reducible refine condK_dec (fun _ => ?_) (fun _ => ?_)) | (with_reducible refine grd_dec (fun _ => ?_) (fun _ => ?_)) | (with_reducible refine egrd_dec (fun _ => ?_) (fun _ => ?_))))
  have hE1 : HExt H K1 := ⟨by omega, fun y hy => (g2 y (by first | omega | (simp only [new_nx, set_nx]; omega))).trans (by rw [new_get, if_neg (by first | omega | (simp only [new_nx, set_nx]; omega)), new_get, if_neg (by first | omega | (simp only [new_nx, set_nx]; omega)), new_get, if_neg (by omega)])⟩
  have hx0 : H.nx + 2 ≤ x0 := by
    rcases g3 with h | h
    · omega
    · have : H.nx + 3 ≤ x0 := h
      omega
  have hT0 : Todo K1 (H.nx + 2) (.slice (some ⟨x0, 0, none⟩) roots.length c0) roots := ⟨x0, 0, c0, _, kd0, rfl, hx0, g4, g5, g6, by rw [maxLen_eq]; exact g7, by simp, fun i hi => by rw [Nat.zero_add, get_map (d := 0) hi], g8⟩
  have hB0 : BI ws roots tn ls (List.replicate tn false) roots := by
    have := rest_nil hF
    refine ⟨by simp, fun a _ h => (by rw [getD_rep] at h; cases h), fun w hwm => ⟨sl_u64 hrs w hwm, (hr w hwm).1, fun h0 => .root hwm h0⟩, fun w hwm _ => .inr hwm, fun a _ h => (by rw [getD_rep] at h; cases h), by omega⟩
  repeat' (first | (simp (disch := first | omega | (decide +kernel) | (repeat (first | assumption | exact HExt.refl _ | (refine HExt.set ?_ (by first | omega | (simp only [new_nx, set_nx]; omega)) _) | (refine HExt.new ?_ _)))) only [↓RD, RU, accW_t, accW_f, isW, ↓putF_get, ↓putF_none, ↓evF_t, ↓evF_c, ↓evF_f, new_nx, set_nx, new_get, set_get, getD_zero, getD_succ, u_not, pop, lop, aop, wop, resL, resV, tupleV, akV, isVal, isCell, Value.cells, List.map_cons, List.map_nil, Bool.not_true, Bool.not_false, Option.map_some, ↓reduceIte, Nat.reduceEqDiff, Nat.reduceAdd, Int.reduceOfNat, Int.reduceNegSucc, reduceCtorEq, List.getElem?_cons_zero, List.getElem?_cons_succ, List.length_cons, List.length_nil, srcR_c, src_n, src_v, src_s, bnd, lenV, capV, Option.isSome_none, Option.isNone_none, Option.isSome_some, Option.isNone_some, Bool.true_or, Bool.false_or, List.take_succ_cons, List.take_zero, List.drop_succ_cons, List.drop_zero, List.cons_append, List.nil_append, List.drop_nil, List.all_cons, List.all_nil, Bool.true_and, Kd.isRo, List.size_toArray, List.toList_toArray, bldV, Nat.reduceLeDiff, Int.reduceMul, Int.reduceAdd, Int.reduceSub, Int.reduceToNat, maxLen_eq, zeros_one, appS_some, appV_n, appV_v, appH_t, appH_f, Kd.isEx, Bool.false_and, partV, Nat.add_zero, Int.toNat_natCast]) | (with_reducible refine condK_dec (fun _ => ?_) (fun _ => ?_)) | (with_reducible refine grd_dec (fun _ => ?_) (fun _ => ?_)) | (with_reducible refine egrd_dec (fun _ => ?_) (fun _ => ?_)))
  refine loop_w (fun m fr K => ∃ v pend bs, m = pend.length + rest ws ls bs ∧ fr 6 = v ∧ Todo K (H.nx + 2) v pend ∧ BI ws roots tn ls bs pend ∧ K.ob H.nx = .cells [.slice (some ⟨l, o, none⟩) ws.length c, .int .i64 (tn : Int)] 24 .ex ∧ K.ob (H.nx + 1) = .cells (bs.map .bool) 4 .ex ∧ HExt H K) (n := roots.length + rest ws ls (List.replicate tn false))
    ⟨_, roots, List.replicate tn false, rfl, by (repeat' (first | (simp (disch := first | omega | (decide +kernel) | (repeat (first | assumption | exact HExt.refl _ | (refine HExt.set ?_ (by first | omega | (simp only [new_nx, set_nx]; omega)) _) | (refine HExt.new ?_ _)))) only [↓RD, RU, accW_t, accW_f, isW, ↓putF_get, ↓putF_none, ↓evF_t, ↓evF_c, ↓evF_f, new_nx, set_nx, new_get, set_get, getD_zero, getD_succ, u_not, pop, lop, aop, wop, resL, resV, tupleV, akV, isVal, isCell, Value.cells, List.map_cons, List.map_nil, Bool.not_true, Bool.not_false, Option.map_some, ↓reduceIte, Nat.reduceEqDiff, Nat.reduceAdd, Int.reduceOfNat, Int.reduceNegSucc, reduceCtorEq, List.getElem?_cons_zero, List.getElem?_cons_succ, List.length_cons, List.length_nil, srcR_c, src_n, src_v, src_s, bnd, lenV, capV, Option.isSome_none, Option.isNone_none, Option.isSome_some, Option.isNone_some, Bool.true_or, Bool.false_or, List.take_succ_cons, List.take_zero, List.drop_succ_cons, List.drop_zero, List.cons_append, List.nil_append, List.drop_nil, List.all_cons, List.all_nil, Bool.true_and, Kd.isRo, List.size_toArray, List.toList_toArray, bldV, Nat.reduceLeDiff, Int.reduceMul, Int.reduceAdd, Int.reduceSub, Int.reduceToNat, maxLen_eq, zeros_one, appS_some, appV_n, appV_v, appH_t, appH_f, Kd.isEx, Bool.false_and, partV, Nat.add_zero, Int.toNat_natCast]) | (with_reducible refine condK_dec (fun _ => ?_) (fun _ => ?_)) | (with_reducible refine grd_dec (fun _ => ?_) (fun _ => ?_)) | (with_reducible refine egrd_dec (fun _ => ?_) (fun _ => ?_)))); all_goals rfl, hT0, hB0, hb1, hi1, hE1⟩ ?_
  rintro m fr K ⟨v, pend, bs, rfl, f6, ⟨x, o', c', cs, kd', rfl, hx1, hx2, hx3, hx4, hx5, hx6, hx7, hx8⟩, hB, hbK, hiK, hEK⟩ hag
  rw [maxLen_eq] at hx5
  match pend, hB, hx4, hx6, hx7, hx8, f6 with
  | [], hB, hx4, hx6, hx7, hx8, f6 =>
    repeat' (first | (simp (disch := first | omega | (decide +kernel) | (repeat (first | assumption | exact HExt.refl _ | (refine HExt.set ?_ (by first | omega | (simp only [new_nx, set_nx]; omega)) _) | (refine HExt.new ?_ _)))) only [↓RD, RU, accW_t, accW_f, isW, ↓putF_get, ↓putF_none, ↓evF_t, ↓evF_c, ↓evF_f, new_nx, set_nx, new_get, set_get, getD_zero, getD_succ, u_not, pop, lop, aop, wop, resL, resV, tupleV, akV, isVal, isCell, Value.cells, List.map_cons, List.map_nil, Bool.not_true, Bool.not_false, Option.map_some, ↓reduceIte, Nat.reduceEqDiff, Nat.reduceAdd, Int.reduceOfNat, Int.reduceNegSucc, reduceCtorEq, List.getElem?_cons_zero, List.getElem?_cons_succ, List.length_cons, List.length_nil, srcR_c, src_n, src_v, src_s, bnd, lenV, capV, Option.isSome_none, Option.isNone_none, Option.isSome_some, Option.isNone_some, Bool.true_or, Bool.false_or, List.take_succ_cons, List.take_zero, List.drop_succ_cons, List.drop_zero, List.cons_append, List.nil_append, List.drop_nil, List.all_cons, List.all_nil, Bool.true_and, Kd.isRo, List.size_toArray, List.toList_toArray, bldV, Nat.reduceLeDiff, Int.reduceMul, Int.reduceAdd, Int.reduceSub, Int.reduceToNat, maxLen_eq, zeros_one, appS_some, appV_n, appV_v, appH_t, appH_f, Kd.isEx, Bool.false_and, partV, Nat.add_zero, Int.toNat_natCast, f6, hag]) | (with_reducible refine condK_dec (fun _ => ?_) (fun _ => ?_)) | (with_reducible refine grd_dec (fun _ => ?_) (fun _ => ?_)) | (with_reducible refine egrd_dec (fun _ => ?_) (fun _ => ?_)))
    have hdn := hB.done hF hr
    have hbl := hB.len
    have hfin : intsN ((List.range tn).filter fun i => bs.getD i false) = intsN (rcL ws roots ls) := by rw [rcL_eq hF hr hdn]
    refine loop_w (fun m fr K2 => ∃ (i : Nat) (v : Value), m = tn - i ∧ i ≤ tn ∧ fr 13 = .int .i64 (i : Int) ∧ fr 12 = v ∧ HExt K K2 ∧ Grw K 3 1 (ints .i64) K2 v (intsN ((List.range i).filter fun i => bs.getD i false))) (n := tn) ⟨0, _, rfl, Nat.zero_le _, by (repeat' (first | (simp (disch := first | omega | (decide +kernel) | (repeat (first | assumption | exact HExt.refl _ | (refine HExt.set ?_ (by first | omega | (simp only [new_nx, set_nx]; omega)) _) | (refine HExt.new ?_ _)))) only [↓RD, RU, accW_t, accW_f, isW, ↓putF_get, ↓putF_none, ↓evF_t, ↓evF_c, ↓evF_f, new_nx, set_nx, new_get, set_get, getD_zero, getD_succ, u_not, pop, lop, aop, wop, resL, resV, tupleV, akV, isVal, isCell, Value.cells, List.map_cons, List.map_nil, Bool.not_true, Bool.not_false, Option.map_some, ↓reduceIte, Nat.reduceEqDiff, Nat.reduceAdd, Int.reduceOfNat, Int.reduceNegSucc, reduceCtorEq, List.getElem?_cons_zero, List.getElem?_cons_succ, List.length_cons, List.length_nil, srcR_c, src_n, src_v, src_s, bnd, lenV, capV, Option.isSome_none, Option.isNone_none, Option.isSome_some, Option.isNone_some, Bool.true_or, Bool.false_or, List.take_succ_cons, List.take_zero, List.drop_succ_cons, List.drop_zero, List.cons_append, List.nil_append, List.drop_nil, List.all_cons, List.all_nil, Bool.true_and, Kd.isRo, List.size_toArray, List.toList_toArray, bldV, Nat.reduceLeDiff, Int.reduceMul, Int.reduceAdd, Int.reduceSub, Int.reduceToNat, maxLen_eq, zeros_one, appS_some, appV_n, appV_v, appH_t, appH_f, Kd.isEx, Bool.false_and, partV, Nat.add_zero, Int.toNat_natCast]) | (with_reducible refine condK_dec (fun _ => ?_) (fun _ => ?_)) | (with_reducible refine grd_dec (fun _ => ?_) (fun _ => ?_)) | (with_reducible refine egrd_dec (fun _ => ?_) (fun _ => ?_)))); all_goals rfl, by (repeat' (first | (simp (disch := first | omega | (decide +kernel) | (repeat (first | assumption | exact HExt.refl _ | (refine HExt.set ?_ (by first | omega | (simp only [new_nx, set_nx]; omega)) _) | (refine HExt.new ?_ _)))) only [↓RD, RU, accW_t, accW_f, isW, ↓putF_get, ↓putF_none, ↓evF_t, ↓evF_c, ↓evF_f, new_nx, set_nx, new_get, set_get, getD_zero, getD_succ, u_not, pop, lop, aop, wop, resL, resV, tupleV, akV, isVal, isCell, Value.cells, List.map_cons, List.map_nil, Bool.not_true, Bool.not_false, Option.map_some, ↓reduceIte, Nat.reduceEqDiff, Nat.reduceAdd, Int.reduceOfNat, Int.reduceNegSucc, reduceCtorEq, List.getElem?_cons_zero, List.getElem?_cons_succ, List.length_cons, List.length_nil, srcR_c, src_n, src_v, src_s, bnd, lenV, capV, Option.isSome_none, Option.isNone_none, Option.isSome_some, Option.isNone_some, Bool.true_or, Bool.false_or, List.take_succ_cons, List.take_zero, List.drop_succ_cons, List.drop_zero, List.cons_append, List.nil_append, List.drop_nil, List.all_cons, List.all_nil, Bool.true_and, Kd.isRo, List.size_toArray, List.toList_toArray, bldV, Nat.reduceLeDiff, Int.reduceMul, Int.reduceAdd, Int.reduceSub, Int.reduceToNat, maxLen_eq, zeros_one, appS_some, appV_n, appV_v, appH_t, appH_f, Kd.isEx, Bool.false_and, partV, Nat.add_zero, Int.toNat_natCast]) | (with_reducible refine condK_dec (fun _ => ?_) (fun _ => ?_)) | (with_reducible refine grd_dec (fun _ => ?_) (fun _ => ?_)) | (with_reducible refine egrd_dec (fun _ => ?_) (fun _ => ?_)))); all_goals rfl, HExt.refl _, Grw.nil⟩ ?_
    rintro m fr2 K2 ⟨i, v, rfl, hi, f13, f12, hx2', hg⟩ hag2
    have hbK2 := (hx2'.ob H.nx (by have := hEK.nx; have := hx2; omega)).trans hbK
    have hiK2 := (hx2'.ob (H.nx + 1) (by omega)).trans hiK
    by_cases hit : i < tn
    case neg =>
      have : i = tn := by omega
      subst this
      rw [hfin] at hg
      repeat' (first | (simp (disch := first | omega | (decide +kernel) | (repeat (first | assumption | exact HExt.refl _ | (refine HExt.set ?_ (by first | omega | (simp only [new_nx, set_nx]; omega)) _) | (refine HExt.new ?_ _)))) only [↓RD, RU, accW_t, accW_f, isW, ↓putF_get, ↓putF_none, ↓evF_t, ↓evF_c, ↓evF_f, new_nx, set_nx, new_get, set_get, getD_zero, getD_succ, u_not, pop, lop, aop, wop, resL, resV, tupleV, akV, isVal, isCell, Value.cells, List.map_cons, List.map_nil, Bool.not_true, Bool.not_false, Option.map_some, ↓reduceIte, Nat.reduceEqDiff, Nat.reduceAdd, Int.reduceOfNat, Int.reduceNegSucc, reduceCtorEq, List.getElem?_cons_zero, List.getElem?_cons_succ, List.length_cons, List.length_nil, srcR_c, src_n, src_v, src_s, bnd, lenV, capV, Option.isSome_none, Option.isNone_none, Option.isSome_some, Option.isNone_some, Bool.true_or, Bool.false_or, List.take_succ_cons, List.take_zero, List.drop_succ_cons, List.drop_zero, List.cons_append, List.nil_append, List.drop_nil, List.all_cons, List.all_nil, Bool.true_and, Kd.isRo, List.size_toArray, List.toList_toArray, bldV, Nat.reduceLeDiff, Int.reduceMul, Int.reduceAdd, Int.reduceSub, Int.reduceToNat, maxLen_eq, zeros_one, appS_some, appV_n, appV_v, appH_t, appH_f, Kd.isEx, Bool.false_and, partV, Nat.add_zero, Int.toNat_natCast, f13, f12, hag2, hag, hbK2]) | (with_reducible refine condK_dec (fun _ => ?_) (fun _ => ?_)) | (with_reducible refine grd_dec (fun _ => ?_) (fun _ => ?_)) | (with_reducible refine egrd_dec (fun _ => ?_) (fun _ => ?_)))
      exact ⟨hEK.trans hx2', hg.low hEK.nx⟩
    have hgi : (bs.map Value.bool)[i]? = some (.bool (bs.getD i false)) := get_map (d := false) (by omega)
    have hsn : (List.range (i + 1)).filter (fun i => bs.getD i false) = (List.range i).filter (fun i => bs.getD i false) ++ (if bs.getD i false = true then [i] else []) := by
      rw [List.range_succ, List.filter_append]
      congr 1
      by_cases h : bs.getD i false = true
      · rw [if_pos h]; simp only [List.filter_cons, h, if_true, List.filter_nil]
      · rw [if_neg h]
        have h' : bs.getD i false = false := by simpa using h
        simp only [List.filter_cons, h', Bool.false_eq_true, if_false, List.filter_nil]
    cases hbi : bs.getD i false with
    | false =>
      rw [hbi] at hgi hsn
      simp only [Bool.false_eq_true, if_false, List.append_nil] at hsn
      repeat' (first | (simp (disch := first | omega | (decide +kernel) | (repeat (first | assumption | exact HExt.refl _ | (refine HExt.set ?_ (by first | omega | (simp only [new_nx, set_nx]; omega)) _) | (refine HExt.new ?_ _)))) only [↓RD, RU, accW_t, accW_f, isW, ↓putF_get, ↓putF_none, ↓evF_t, ↓evF_c, ↓evF_f, new_nx, set_nx, new_get, set_get, getD_zero, getD_succ, u_not, pop, lop, aop, wop, resL, resV, tupleV, akV, isVal, isCell, Value.cells, List.map_cons, List.map_nil, Bool.not_true, Bool.not_false, Option.map_some, ↓reduceIte, Nat.reduceEqDiff, Nat.reduceAdd, Int.reduceOfNat, Int.reduceNegSucc, reduceCtorEq, List.getElem?_cons_zero, List.getElem?_cons_succ, List.length_cons, List.length_nil, srcR_c, src_n, src_v, src_s, bnd, lenV, capV, Option.isSome_none, Option.isNone_none, Option.isSome_some, Option.isNone_some, Bool.true_or, Bool.false_or, List.take_succ_cons, List.take_zero, List.drop_succ_cons, List.drop_zero, List.cons_append, List.nil_append, List.drop_nil, List.all_cons, List.all_nil, Bool.true_and, Kd.isRo, List.size_toArray, List.toList_toArray, bldV, Nat.reduceLeDiff, Int.reduceMul, Int.reduceAdd, Int.reduceSub, Int.reduceToNat, maxLen_eq, zeros_one, appS_some, appV_n, appV_v, appH_t, appH_f, Kd.isEx, Bool.false_and, partV, Nat.add_zero, Int.toNat_natCast, f13, f12, hag2, hag, hbK2, hiK2, hgi, hbl, List.length_map]) | (with_reducible refine condK_dec (fun _ => ?_) (fun _ => ?_)) | (with_reducible refine grd_dec (fun _ => ?_) (fun _ => ?_)) | (with_reducible refine egrd_dec (fun _ => ?_) (fun _ => ?_)))
      exact ⟨_, by omega, i + 1, _, rfl, by omega, rfl, rfl, hx2', by rw [hsn]; exact hg⟩
    | true =>
      rw [hbi] at hgi hsn
      simp only [if_true] at hsn
      repeat' (first | (simp (disch := first | omega | (decide +kernel) | (repeat (first | assumption | exact HExt.refl _ | (refine HExt.set ?_ (by first | omega | (simp only [new_nx, set_nx]; omega)) _) | (refine HExt.new ?_ _)))) only [↓RD, RU, accW_t, accW_f, isW, ↓putF_get, ↓putF_none, ↓evF_t, ↓evF_c, ↓evF_f, new_nx, set_nx, new_get, set_get, getD_zero, getD_succ, u_not, pop, lop, aop, wop, resL, resV, tupleV, akV, isVal, isCell, Value.cells, List.map_cons, List.map_nil, Bool.not_true, Bool.not_false, Option.map_some, ↓reduceIte, Nat.reduceEqDiff, Nat.reduceAdd, Int.reduceOfNat, Int.reduceNegSucc, reduceCtorEq, List.getElem?_cons_zero, List.getElem?_cons_succ, List.length_cons, List.length_nil, srcR_c, src_n, src_v, src_s, bnd, lenV, capV, Option.isSome_none, Option.isNone_none, Option.isSome_some, Option.isNone_some, Bool.true_or, Bool.false_or, List.take_succ_cons, List.take_zero, List.drop_succ_cons, List.drop_zero, List.cons_append, List.nil_append, List.drop_nil, List.all_cons, List.all_nil, Bool.true_and, Kd.isRo, List.size_toArray, List.toList_toArray, bldV, Nat.reduceLeDiff, Int.reduceMul, Int.reduceAdd, Int.reduceSub, Int.reduceToNat, maxLen_eq, zeros_one, appS_some, appV_n, appV_v, appH_t, appH_f, Kd.isEx, Bool.false_and, partV, Nat.add_zero, Int.toNat_natCast, f13, f12, hag2, hag, hbK2, hiK2, hgi, hbl, List.length_map]) | (with_reducible refine condK_dec (fun _ => ?_) (fun _ => ?_)) | (with_reducible refine grd_dec (fun _ => ?_) (fun _ => ?_)) | (with_reducible refine egrd_dec (fun _ => ?_) (fun _ => ?_)))
      have hll : (intsN ((List.range i).filter fun i => bs.getD i false)).length ≤ i := by
        have : (intsN ((List.range i).filter fun i => bs.getD i false)).length = ((List.range i).filter fun i => bs.getD i false).length := by simp [intsN]
        rw [this]
        exact Nat.le_trans (List.length_filter_le _ _) (by simp)
      refine optW_app (ints_ok .i64) (ys := [(i : Int)]) (hg.ext (by (repeat (first | assumption | exact HExt.refl _ | (refine HExt.set ?_ (by first | omega | (simp only [new_nx, set_nx]; omega)) _) | (refine HExt.new ?_ _))))) (hx2'.new _) (by simp only [List.length_singleton]; omega) (by simp only [List.length_singleton]; omega) rfl rfl fun v' K3 j1 j2 j3 j4 => ?_
      repeat' (first | (simp (disch := first | omega | (decide +kernel) | (repeat (first | assumption | exact HExt.refl _ | (refine HExt.set ?_ (by first | omega | (simp only [new_nx, set_nx]; omega)) _) | (refine HExt.new ?_ _)))) only [↓RD, RU, accW_t, accW_f, isW, ↓putF_get, ↓putF_none, ↓evF_t, ↓evF_c, ↓evF_f, new_nx, set_nx, new_get, set_get, getD_zero, getD_succ, u_not, pop, lop, aop, wop, resL, resV, tupleV, akV, isVal, isCell, Value.cells, List.map_cons, List.map_nil, Bool.not_true, Bool.not_false, Option.map_some, ↓reduceIte, Nat.reduceEqDiff, Nat.reduceAdd, Int.reduceOfNat, Int.reduceNegSucc, reduceCtorEq, List.getElem?_cons_zero, List.getElem?_cons_succ, List.length_cons, List.length_nil, srcR_c, src_n, src_v, src_s, bnd, lenV, capV, Option.isSome_none, Option.isNone_none, Option.isSome_some, Option.isNone_some, Bool.true_or, Bool.false_or, List.take_succ_cons, List.take_zero, List.drop_succ_cons, List.drop_zero, List.cons_append, List.nil_append, List.drop_nil, List.all_cons, List.all_nil, Bool.true_and, Kd.isRo, List.size_toArray, List.toList_toArray, bldV, Nat.reduceLeDiff, Int.reduceMul, Int.reduceAdd, Int.reduceSub, Int.reduceToNat, maxLen_eq, zeros_one, appS_some, appV_n, appV_v, appH_t, appH_f, Kd.isEx, Bool.false_and, partV, Nat.add_zero, Int.toNat_natCast, f13, hag2, hag]) | (with_reducible refine condK_dec (fun _ => ?_) (fun _ => ?_)) | (with_reducible refine grd_dec (fun _ => ?_) (fun _ => ?_)) | (with_reducible refine egrd_dec (fun _ => ?_) (fun _ => ?_)))
      refine ⟨_, by omega, i + 1, v', rfl, by omega, rfl, rfl, j2, ?_⟩
      rw [hsn]
      have : intsN ((List.range i).filter (fun i => bs.getD i false) ++ [i]) = intsN ((List.range i).filter fun i => bs.getD i false) ++ [(i : Int)] := by simp [intsN]
      rw [this]; exact j1
  | w :: pend, hB, hx4, hx6, hx7, hx8, f6 =>
    have hkd : kd' = .gr := hx8 (by simp)
    subst hkd
    simp only [List.length_cons] at hx4 hx6 hx7 f6
    have hg0 : cs[o']? = some (.int .u64 w) := hx7 0 (by omega)
    have hgw := hB.good w (List.mem_cons_self ..)
    have hsl := slice1 (l := x) (o := o') (n := pend.length + 1) (c := c') (by omega) hx4
    have hok : okSl K 50 (.slice (some ⟨x, o', none⟩) (pend.length + 1) c') = true := okSl_own hx3
    have hbnd := hB.bnd
    simp only [List.length_cons] at hbnd
    have hT1 : Todo K (H.nx + 2) (.slice (some ⟨x, o' + 1, none⟩) pend.length (c' - 1)) pend := ⟨x, o' + 1, c' - 1, cs, .gr, rfl, hx1, hx2, hx3, by omega, by rw [maxLen_eq]; omega, by omega, fun i hi => by
      rw [Nat.add_assoc, Nat.add_comm 1 i]
      have := hx7 (i + 1) (by omega)
      simpa using this, fun _ => rfl⟩
    have e1 : pend.length + 1 - 1 = pend.length := rfl
    rw [e1] at hsl
    by_cases k0 : kindF w = 0
    case neg =>
      have heAt : eAt w = 9 := by unfold eAt; rw [if_neg k0]
      repeat' (first | (simp (disch := first | omega | (decide +kernel) | (repeat (first | assumption | exact HExt.refl _ | (refine HExt.set ?_ (by first | omega | (simp only [new_nx, set_nx]; omega)) _) | (refine HExt.new ?_ _)))) only [↓RD, RU, accW_t, accW_f, isW, ↓putF_get, ↓putF_none, ↓evF_t, ↓evF_c, ↓evF_f, new_nx, set_nx, new_get, set_get, getD_zero, getD_succ, u_not, pop, lop, aop, wop, resL, resV, tupleV, akV, isVal, isCell, Value.cells, List.map_cons, List.map_nil, Bool.not_true, Bool.not_false, Option.map_some, ↓reduceIte, Nat.reduceEqDiff, Nat.reduceAdd, Int.reduceOfNat, Int.reduceNegSucc, reduceCtorEq, List.getElem?_cons_zero, List.getElem?_cons_succ, List.length_cons, List.length_nil, srcR_c, src_n, src_v, src_s, bnd, lenV, capV, Option.isSome_none, Option.isNone_none, Option.isSome_some, Option.isNone_some, Bool.true_or, Bool.false_or, List.take_succ_cons, List.take_zero, List.drop_succ_cons, List.drop_zero, List.cons_append, List.nil_append, List.drop_nil, List.all_cons, List.all_nil, Bool.true_and, Kd.isRo, List.size_toArray, List.toList_toArray, bldV, Nat.reduceLeDiff, Int.reduceMul, Int.reduceAdd, Int.reduceSub, Int.reduceToNat, maxLen_eq, zeros_one, appS_some, appV_n, appV_v, appH_t, appH_f, Kd.isEx, Bool.false_and, partV, Nat.add_zero, Int.toNat_natCast, f6, hag, hx3, hg0, hsl, hok, rat_iff, heAt]) | (with_reducible refine condK_dec (fun _ => ?_) (fun _ => ?_)) | (with_reducible refine grd_dec (fun _ => ?_) (fun _ => ?_)) | (with_reducible refine egrd_dec (fun _ => ?_) (fun _ => ?_)))
      exact ⟨_, by omega, _, pend, bs, rfl, rfl, hT1, hB.drop fun h => absurd h k0, hbK, hiK, hEK⟩
    have heAt : eAt w = 0 := by unfold eAt; rw [if_pos k0]
    have hnAt : nAt w = (adr w : Int) := by unfold nAt adr; rw [if_pos k0]; omega
    have hrc := hgw.2.2 k0
    have hmem := hrc.mem hF hr
    have hob3 := obj_lt2 hF hmem
    have hlt := hF.ch.mem _ hmem
    have hgq : (bs.map Value.bool)[adr w]? = some (.bool (bs.getD (adr w) false)) := get_map (d := false) (by rw [hB.len]; omega)
    cases hbw : bs.getD (adr w) false with
    | true =>
      rw [hbw] at hgq
      repeat' (first | (simp (disch := first | omega | (decide +kernel) | (repeat (first | assumption | exact HExt.refl _ | (refine HExt.set ?_ (by first | omega | (simp only [new_nx, set_nx]; omega)) _) | (refine HExt.new ?_ _)))) only [↓RD, RU, accW_t, accW_f, isW, ↓putF_get, ↓putF_none, ↓evF_t, ↓evF_c, ↓evF_f, new_nx, set_nx, new_get, set_get, getD_zero, getD_succ, u_not, pop, lop, aop, wop, resL, resV, tupleV, akV, isVal, isCell, Value.cells, List.map_cons, List.map_nil, Bool.not_true, Bool.not_false, Option.map_some, ↓reduceIte, Nat.reduceEqDiff, Nat.reduceAdd, Int.reduceOfNat, Int.reduceNegSucc, reduceCtorEq, List.getElem?_cons_zero, List.getElem?_cons_succ, List.length_cons, List.length_nil, srcR_c, src_n, src_v, src_s, bnd, lenV, capV, Option.isSome_none, Option.isNone_none, Option.isSome_some, Option.isNone_some, Bool.true_or, Bool.false_or, List.take_succ_cons, List.take_zero, List.drop_succ_cons, List.drop_zero, List.cons_append, List.nil_append, List.drop_nil, List.all_cons, List.all_nil, Bool.true_and, Kd.isRo, List.size_toArray, List.toList_toArray, bldV, Nat.reduceLeDiff, Int.reduceMul, Int.reduceAdd, Int.reduceSub, Int.reduceToNat, maxLen_eq, zeros_one, appS_some, appV_n, appV_v, appH_t, appH_f, Kd.isEx, Bool.false_and, partV, Nat.add_zero, Int.toNat_natCast, f6, hag, hx3, hg0, hsl, hok, rat_iff, heAt, hnAt, hiK, hgq]) | (with_reducible refine condK_dec (fun _ => ?_) (fun _ => ?_)) | (with_reducible refine grd_dec (fun _ => ?_) (fun _ => ?_)) | (with_reducible refine egrd_dec (fun _ => ?_) (fun _ => ?_)))
      exact ⟨_, by omega, _, pend, bs, rfl, rfl, hT1, hB.drop fun _ => hbw, hbK, rfl, hEK⟩
    | false =>
      rw [hbw] at hgq
      have hset := set_bool (l := bs) (i := adr w) (x := true) (by rw [hB.len]; omega)
      have hbl := hB.len
      repeat' (first | (simp (disch := first | omega | (decide +kernel) | (repeat (first | assumption | exact HExt.refl _ | (refine HExt.set ?_ (by first | omega | (simp only [new_nx, set_nx]; omega)) _) | (refine HExt.new ?_ _)))) only [↓RD, RU, accW_t, accW_f, isW, ↓putF_get, ↓putF_none, ↓evF_t, ↓evF_c, ↓evF_f, new_nx, set_nx, new_get, set_get, getD_zero, getD_succ, u_not, pop, lop, aop, wop, resL, resV, tupleV, akV, isVal, isCell, Value.cells, List.map_cons, List.map_nil, Bool.not_true, Bool.not_false, Option.map_some, ↓reduceIte, Nat.reduceEqDiff, Nat.reduceAdd, Int.reduceOfNat, Int.reduceNegSucc, reduceCtorEq, List.getElem?_cons_zero, List.getElem?_cons_succ, List.length_cons, List.length_nil, srcR_c, src_n, src_v, src_s, bnd, lenV, capV, Option.isSome_none, Option.isNone_none, Option.isSome_some, Option.isNone_some, Bool.true_or, Bool.false_or, List.take_succ_cons, List.take_zero, List.drop_succ_cons, List.drop_zero, List.cons_append, List.nil_append, List.drop_nil, List.all_cons, List.all_nil, Bool.true_and, Kd.isRo, List.size_toArray, List.toList_toArray, bldV, Nat.reduceLeDiff, Int.reduceMul, Int.reduceAdd, Int.reduceSub, Int.reduceToNat, maxLen_eq, zeros_one, appS_some, appV_n, appV_v, appH_t, appH_f, Kd.isEx, Bool.false_and, partV, Nat.add_zero, Int.toNat_natCast, f6, hag, hx3, hg0, hsl, hok, rat_iff, heAt, hnAt, hiK, hgq, hbK, ↓hset, hbl, List.length_map]) | (with_reducible refine condK_dec (fun _ => ?_) (fun _ => ?_)) | (with_reducible refine grd_dec (fun _ => ?_) (fun _ => ?_)) | (with_reducible refine egrd_dec (fun _ => ?_) (fun _ => ?_)))
      have hE2 : HExt H (K.set (H.nx + 1) (.cells ((bs.set (adr w) true).map .bool) 4 .ex)) := hEK.set (by omega) _
      have hn2 : (K.set (H.nx + 1) (.cells ((bs.set (adr w) true).map .bool) 4 .ex)).nx = K.nx := rfl
      refine (rlook_wp (hw.good hE2) tn (adr w) (by omega) (by omega) (by omega) (by omega) (by omega)).mono fun u K3 ⟨hv, hx3'⟩ => ?_
      have hsz := isObj_sz (hF.ob _ hmem)
      have hpt := isObj_parts (hF.ob _ hmem)
      rw [Int.toNat_natCast, if_pos (by unfold inA; exact decide_eq_true (by omega)), hpt.2.2.2.1] at hv
      subst hv
      have htg : hdT (wd ws (adr w)) = (tgN ws (adr w) : Int) := by
        have := okH_parts hpt.2.2.2.1
        unfold tgN; omega
      have hnx3 := hx3'.nx
      rw [hn2] at hnx3
      have hbK3 : K3.ob H.nx = _ := (hx3'.ob _ (by rw [hn2]; omega)).trans ((set_get.trans (if_neg (by omega))).trans hbK)
      have hiK3 : K3.ob (H.nx + 1) = .cells ((bs.set (adr w) true).map .bool) 4 .ex := (hx3'.ob _ (by rw [hn2]; omega)).trans (set_get.trans (if_pos rfl))
      have hxK3 : K3.ob x = _ := (hx3'.ob _ (by rw [hn2]; omega)).trans ((set_get.trans (if_neg (by omega))).trans hx3)
      have hlK3 : K3.ob l = _ := (hx3'.ob _ (by rw [hn2]; have := hEK.nx; omega)).trans ((set_get.trans (if_neg (by omega))).trans ((hEK.ob l hl1).trans hob))
      have hsl2 := slice_all (l := l) (o := o) (n := ws.length) (c := c) (sz := 1) (lo := (adr w : Int) + 2) (hi := (adr w : Int) + 2 + (tgN ws (adr w) : Int)) (by omega) (by omega) (by omega)
      have e3 : ((adr w : Int) + 2 + (tgN ws (adr w) : Int) - ((adr w : Int) + 2)).toNat = tgN ws (adr w) := by omega
      have e4 : ((adr w : Int) + 2).toNat = adr w + 2 := by omega
      rw [e3, e4, Nat.mul_one] at hsl2
      obtain ⟨K4, hK4⟩ : ∃ K4, K4 = ((K3.new (.cells [.int .i64 0, .int .i64 0, .int .i64 0] 64 .ex)).set K3.nx (.cells [.int .i64 (hdK (wd ws (adr w))), .int .i64 (tgN ws (adr w)), .int .i64 (hdS (wd ws (adr w)))] 64 .ex)) := ⟨_, rfl⟩
      have hlow : ∀ y, y < K3.nx → K4.ob y = K3.ob y := fun y hy => by rw [hK4, set_get, if_neg (by omega), new_get, if_neg (by omega)]
      have hnx4 : K4.nx = K3.nx + 1 := by rw [hK4]; rfl
      have hlK4 : K4.ob l = _ := (hlow l (by have := hEK.nx; omega)).trans hlK3
      have hxK4 : K4.ob x = _ := (hlow x (by omega)).trans hxK3
      have hok4 := hokA K4 (hlK4.trans hob.symm)
      rw [hK4] at hok4
      have hsrc := src_flds (ws := ws) (a := adr w) (cc := ((c : Int) - ((adr w : Int) + 2)).toNat) hlK4 hos (by omega) (by omega)
      rw [hK4] at hsrc
      repeat' (first | (simp (disch := first | omega | (decide +kernel) | (repeat (first | assumption | exact HExt.refl _ | (refine HExt.set ?_ (by first | omega | (simp only [new_nx, set_nx]; omega)) _) | (refine HExt.new ?_ _)))) only [↓r_seq, ↓r_block, ↓seqK_n, ↓seqK_r, ↓seqK_e, ↓blockK_n, ↓blockK_r, ↓blockK_e, ↓loopI_n, ↓loopI_r, ↓loopI_e, ↓funK_n, ↓funK_r, ↓r_reg, ↓r_drw, ↓r_cond, ↓condK_t, ↓condK_f, ↓i_cons, ↓eitemK, ↓e_nil, ↓e_cons, ↓e_grd, ↓egrd_tt, ↓egrd_ff, ↓egrd_tf, ↓egrd_ft, ↓egrd_s, ↓drwK, ↓r_drw2, ↓chk_nil, ↓chk_n, ↓chk_g, agL, agV_tt, agV_ff, agV_tf, agV_ft, agV_s, agE, accW_t, accW_f, isW, ↓i_grd, ↓grd_tt, ↓grd_ff, ↓grd_tf, ↓grd_ft, ↓grd_s, ↓itemK, ↓o_p, ↓o_l, ↓o_a, ↓o_w, ↓o_call, ↓o_callv, ↓callvK_f, ↓callvK_y, ↓r_range, ↓rangeV_f, ↓putF_get, ↓putF_none, ↓evF_t, ↓evF_c, ↓evF_f, new_nx, set_nx, new_get, set_get, optV_some, optW_some, optA_some, finK_some, ↓wpI_nil, ↓wpR_skip, ↓wpR_exit, ↓wpR_ret, getD_zero, getD_succ, b_add, b_sub, b_mul, b_quo, b_rem, b_eql, b_neq, b_lss, b_leq, b_gtr, b_geq, u_not, w_i64, w_u64, w_u8, t_div, t_mod, pop, lop, aop, wop, resL, resV, tupleV, akV, isVal, isCell, Value.cells, List.map_cons, List.map_nil, Bool.not_true, Bool.not_false, Option.map_some, ↓reduceIte, Nat.reduceEqDiff, Nat.reduceAdd, Int.reduceOfNat, Int.reduceNegSucc, decide_true, decide_false, reduceCtorEq, List.getElem?_cons_zero, List.getElem?_cons_succ, List.length_cons, List.length_nil, setc_0, setc_s, srcR_c, src_n, src_v, src_s, bnd, lenV, capV, Option.isSome_none, Option.isNone_none, Option.isSome_some, Option.isNone_some, Bool.or_false, Bool.or_true, Bool.true_or, Bool.false_or, List.take_succ_cons, List.take_zero, List.drop_succ_cons, List.drop_zero, List.cons_append, List.nil_append, List.append_nil, List.take_nil, List.drop_nil, List.all_cons, List.all_nil, Bool.and_true, Bool.true_and, Kd.isRo, List.size_toArray, List.getElem?_toArray, List.toList_toArray, bldV, Nat.reduceLeDiff, Nat.le_refl, u_neg, b_or0, Int.reduceMul, Int.reduceAdd, Int.reduceSub, Int.zero_mul, Int.zero_add, Int.add_zero, b_and3, b_and8, b_and24, b_shr2, b_shrs2, b_shr8, b_shr32, b_shr56, b_shl2, b_shl8, b_shl32, toNat_add1, toNat_add2, toNat_addn, toNat_add2n, Int.reduceToNat, maxLen_eq, zeros_one, zeros_two, zeros_three, take_mapl, List.length_map, List.map_append, List.length_append, beq_self_eq_true, beq_true, beq_false, Bool.false_xor, Bool.true_xor, Bool.xor_false, Bool.xor_true, dec_t, dec_f, ↓w_app, appS_some, appV_n, appV_v, appR_c, appH_t, appH_f, Kd.isEx, Bool.false_and, partV, if_pos, if_neg, Nat.mul_one, Nat.one_mul, Nat.zero_add, Nat.add_zero, Int.toNat_natCast, true_and, and_true, f6, hag, hbK3, htg, hsl2, hok4, hsrc]) | (with_reducible refine condK_dec (fun _ => ?_) (fun _ => ?_)) | (with_reducible refine grd_dec (fun _ => ?_) (fun _ => ?_)) | (with_reducible refine egrd_dec (fun _ => ?_) (fun _ => ?_)))
      rw [← hK4]
      obtain ⟨hB2, hlt2⟩ := hB.mark hF hr hu k0 hbw
      have hbn := hB2.bnd
      have hxn4 : x < K4.nx := by omega
      refine todo_app (ys := flds ws (adr w)) (pend := pend) rfl hxn4 hxK4 (by omega) (by omega) (by rw [maxLen_eq]; omega) (by omega) (fun i hi => ?_) rfl (by rw [List.length_append] at hbn; omega) hx1 fun v' K5 j1 j2 j3 => ?_
      · rw [Nat.add_assoc, Nat.add_comm 1 i]
        have := hx7 (i + 1) (by omega)
        simpa using this
      repeat' (first | (simp (disch := first | omega | (decide +kernel) | (repeat (first | assumption | exact HExt.refl _ | (refine HExt.set ?_ (by first | omega | (simp only [new_nx, set_nx]; omega)) _) | (refine HExt.new ?_ _)))) only [↓RD, RU, accW_t, accW_f, isW, ↓putF_get, ↓putF_none, ↓evF_t, ↓evF_c, ↓evF_f, new_nx, set_nx, new_get, set_get, getD_zero, getD_succ, u_not, pop, lop, aop, wop, resL, resV, tupleV, akV, isVal, isCell, Value.cells, List.map_cons, List.map_nil, Bool.not_true, Bool.not_false, Option.map_some, ↓reduceIte, Nat.reduceEqDiff, Nat.reduceAdd, Int.reduceOfNat, Int.reduceNegSucc, reduceCtorEq, List.getElem?_cons_zero, List.getElem?_cons_succ, List.length_cons, List.length_nil, srcR_c, src_n, src_v, src_s, bnd, lenV, capV, Option.isSome_none, Option.isNone_none, Option.isSome_some, Option.isNone_some, Bool.true_or, Bool.false_or, List.take_succ_cons, List.take_zero, List.drop_succ_cons, List.drop_zero, List.cons_append, List.nil_append, List.drop_nil, List.all_cons, List.all_nil, Bool.true_and, Kd.isRo, List.size_toArray, List.toList_toArray, bldV, Nat.reduceLeDiff, Int.reduceMul, Int.reduceAdd, Int.reduceSub, Int.reduceToNat, maxLen_eq, zeros_one, appS_some, appV_n, appV_v, appH_t, appH_f, Kd.isEx, Bool.false_and, partV, Nat.add_zero, Int.toNat_natCast, hag]) | (with_reducible refine condK_dec (fun _ => ?_) (fun _ => ?_)) | (with_reducible refine grd_dec (fun _ => ?_) (fun _ => ?_)) | (with_reducible refine egrd_dec (fun _ => ?_) (fun _ => ?_)))
      have hE4 : HExt H K4 := ⟨by have := hEK.nx; omega, fun y hy => by
        have := hEK.nx
        rw [hlow y (by omega), hx3'.ob y (by rw [hn2]; omega), set_get, if_neg (by omega)]
        exact hEK.ob y hy⟩
      refine ⟨_, hlt2, v', _, _, rfl, rfl, j1, hB2, (j3 _ (by omega) (by omega)).trans ((hlow _ (by omega)).trans hbK3), (j3 _ (by omega) (by omega)).trans ((hlow _ (by omega)).trans hiK3), ⟨by have := hE4.nx; omega, fun y hy => by
        have := hEK.nx
        rw [j3 y (by omega) (by omega)]; exact hE4.ob y hy⟩⟩
end Can
end Go.Proofs.Ytjgigomeneddpaa
