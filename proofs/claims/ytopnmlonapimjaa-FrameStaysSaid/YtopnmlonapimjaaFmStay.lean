/- Frame: the law FrameStays answers true, as a canonical run. -/
import Derived.Test.YtopnmlonapimjaaFmClear
import Derived.Test.YtopnmlonapimjaaFmGood
namespace Go.Proofs.Ytopnmlonapimjaa
namespace Can
open Go Go.RowKit
set_option linter.unusedSimpArgs false
set_option linter.unusedVariables false
set_option maxRecDepth 4000
/-- Registers unbound: the memory stays in form. -/
theorem form_clear {ws : List Int} {t a : Nat} {l : List Int} {lv : List Nat} (h : formF ws t = some l) (ha : (a : Int) ∈ l) : ∀ (n : Nat) {us : List Int}, (8 + n : Int) ≤ hdS (wd ws a) → ClI ws us (a + 8) n lv → formF us t = some l := by
  obtain ⟨g1, g2, g3, g4, g5, g6, g7, g8⟩ := form_parts h
  have hsm := chain_mem g6 _ ha
  intro n
  induction n with
  | zero =>
    intro us _ hC
    have : us = ws := wd_ext hC.len fun i hi => by rw [hC.at' i (by have := hC.len; omega), if_neg (by omega)]
    rw [this]; exact h
  | succ n ih =>
    intro us hn hC
    obtain ⟨y, hy, hya, hyt, hyo⟩ := hsm
    have : y = a := by omega
    subst this
    have hp := okH_parts (isObj_parts hyo).2.2.2.1
    have hul := hC.len
    cases hb : bitW lv n with
    | true =>
      refine ih (by omega) ⟨hul, fun i hi => ?_⟩
      rw [hC.at' i hi]
      by_cases e : i = y + 8 + n
      · have e2 : i - (y + 8) = n := by omega
        rw [if_neg (by rw [e2, hb]; simp), if_neg (by omega)]
      · by_cases h2 : y + 8 ≤ i ∧ i < y + 8 + n ∧ bitW lv (i - (y + 8)) = false
        · rw [if_pos ⟨h2.1, by omega, h2.2.2⟩, if_pos h2]
        · rw [if_neg (fun h => h2 ⟨h.1, by omega, h.2.2⟩), if_neg h2]
    | false =>
      have hlt : y + 8 + n < ws.length := by omega
      have hC2 : ClI ws (us.set (y + 8 + n) (wd ws (y + 8 + n))) (y + 8) n lv := by
        refine ⟨by simp [hul], fun i hi => ?_⟩
        rw [wd_set (by omega), hC.at' i hi]
        by_cases e : i = y + 8 + n
        · rw [if_pos e, if_neg (by omega), e]
        · rw [if_neg e]
          by_cases h2 : y + 8 ≤ i ∧ i < y + 8 + n ∧ bitW lv (i - (y + 8)) = false
          · rw [if_pos ⟨h2.1, by omega, h2.2.2⟩, if_pos h2]
          · rw [if_neg (fun h => h2 ⟨h.1, by omega, h.2.2⟩), if_neg h2]
      have hf := ih (by omega) hC2
      have hhd : wd (us.set (y + 8 + n) (wd ws (y + 8 + n))) y = wd ws y := by rw [hC2.at' y (by omega), if_neg (by omega)]
      have hs := form_set (x := 14) hf ha (j := 8 + n) (by omega) (by rw [hhd]; omega) (fun _ => by rfl)
      have : (us.set (y + 8 + n) (wd ws (y + 8 + n))).set (y + (8 + n)) 14 = us := by
        refine wd_ext (by simp) fun i hi => ?_
        simp only [List.length_set] at hi
        rw [wd_set (by simp; omega), wd_set (by omega)]
        by_cases e : i = y + 8 + n
        · have e2 : i - (y + 8) = n := by omega
          rw [if_pos (by omega), hC.at' i (by omega), if_pos ⟨by omega, by omega, by rw [e2]; exact hb⟩]
        · rw [if_neg (by omega), if_neg e]
      rwa [this] at hs
theorem bit_dec0 {w k : Nat} : decide (((w >>> k &&& 1 : Nat) : Int) = 0) = !w.testBit k := by
  rw [← bit_dec]
  have : w >>> k &&& 1 = 0 ∨ w >>> k &&& 1 = 1 := by
    rw [Nat.and_one_is_mod]; omega
  rcases this with h | h <;> rw [h] <;> rfl
theorem wat_room {K : CH} {b : Nat} {kd : Kd} {lv : List Nat} (hb : K.ob b = .cells ((roomF (lv.map fun (x : Nat) => (x : Int))).map (.int .u64)) 29 kd) (hbl : b < K.nx) (hw : W64 lv) (hl : lv.length ≤ 17592186043904) : WAt K (some ⟨b, 0, none⟩) (lv.length + 6) lv := by
  refine ⟨.inr ⟨b, 0, _, _, _, rfl, hbl, by simp, by rw [maxLen_eq]; omega, hb, by simp [room_len], fun i hi => ?_⟩, hw⟩
  have hi' : i < lv.length := by simpa using hi
  have g := room_lo (xs := lv.map fun (x : Nat) => (x : Int)) (i := i) (by simpa using hi')
  have hg : ((roomF (lv.map fun (x : Nat) => (x : Int))).map (Value.int .u64))[i]? = some (.int .u64 ((roomF (lv.map fun (x : Nat) => (x : Int))).getD i 0)) := get_map (by rw [room_len]; simp; omega)
  refine ⟨?_, ?_⟩
  · rw [Nat.zero_add, Nat.mul_one, List.take_one, List.head?_drop, hg, g]
    simp [List.getD, List.getElem?_eq_getElem hi']
  · have hm := hw _ (List.getElem_mem hi')
    simp [Lit.wf, IntKind.min, IntKind.max, IntKind.signed, IntKind.bits]; omega
set_option maxHeartbeats 4000000 in
theorem fstay_wp {H : CH} {p : Option Addr} {c : Nat} {ws : List Int} (hw : Words H p c ws) (hl : ws.length * 8 ≤ 140737488355328) (top w : Int) (ht : -9223372036854775808 ≤ top ∧ top ≤ 9223372036854775807) (h3 : 0 ≤ w ∧ w < 18446744073709551616) {q : Option Addr} {cl : Nat} {lv : List Nat} (hlv : WAt H q cl lv) (hll : lv.length ≤ 17592186043904) :
    WpF (tblG Try.prog LG GG) 4 [.agg #[.slice p ws.length c, .int .i64 top], .int .u64 w, .slice q lv.length cl] H fun v K => v = .bool true := by
  refine wpF_rG (by rfl) (by kernel_rfl) ?_; (conv in (rF _ _).body => reduce); (conv in (rF _ _).res => reduce)
  repeat' (first | (simp (disch := first | omega | (decide +kernel) | (repeat (first | assumption | exact HExt.refl _ | (refine HExt.set ?_ (by first | omega | (simp only [new_nx, set_nx]; omega)) _) | (refine HExt.new ?_ _)))) only [↓RD, RU, accW_t, accW_f, isW, ↓putF_get, ↓putF_none, ↓evF_t, ↓evF_c, ↓evF_f, new_nx, set_nx, new_get, set_get, getD_zero, getD_succ, u_not, pop, lop, aop, wop, resL, resV, tupleV, akV, isVal, isCell, Value.cells, List.map_cons, List.map_nil, Bool.not_true, Bool.not_false, Option.map_some, ↓reduceIte, Nat.reduceEqDiff, Nat.reduceAdd, Int.reduceOfNat, Int.reduceNegSucc, reduceCtorEq, List.getElem?_cons_zero, List.getElem?_cons_succ, List.length_cons, List.length_nil, srcR_c, src_n, src_v, src_s, bnd, lenV, capV, Option.isSome_none, Option.isNone_none, Option.isSome_some, Option.isNone_some, Bool.true_or, Bool.false_or, List.take_succ_cons, List.take_zero, List.drop_succ_cons, List.drop_zero, List.cons_append, List.nil_append, List.drop_nil, List.all_cons, List.all_nil, Bool.true_and, Kd.isRo, List.size_toArray, List.toList_toArray, bldV, Nat.reduceLeDiff, Int.reduceMul, Int.reduceAdd, Int.reduceSub, Int.reduceToNat, maxLen_eq, zeros_one, appS_some, appV_n, appV_v, appH_t, appH_f, Kd.isEx, Bool.false_and, partV, Nat.add_zero, Int.toNat_natCast, knownG_iff]) | (with_reducible refine condK_dec (fun _ => ?_) (fun _ => ?_)) | (with_reducible refine grd_dec (fun _ => ?_) (fun _ => ?_)) | (with_reducible refine egrd_dec (fun _ => ?_) (fun _ => ?_)))
  have hE0 : HExt H (H.new (.cells [.slice p ws.length c, .int .i64 top] 24 .ex)) := by (repeat (first | assumption | exact HExt.refl _ | (refine HExt.set ?_ (by first | omega | (simp only [new_nx, set_nx]; omega)) _) | (refine HExt.new ?_ _)))
  have hb0 : (H.new (.cells [.slice p ws.length c, .int .i64 top] 24 .ex)).ob H.nx = .cells [.slice p ws.length c, .int .i64 top] 24 .ex := by repeat' (first | (simp (disch := first | omega | (decide +kernel) | (repeat (first | assumption | exact HExt.refl _ | (refine HExt.set ?_ (by first | omega | (simp only [new_nx, set_nx]; omega)) _) | (refine HExt.new ?_ _)))) only [↓RD, RU, accW_t, accW_f, isW, ↓putF_get, ↓putF_none, ↓evF_t, ↓evF_c, ↓evF_f, new_nx, set_nx, new_get, set_get, getD_zero, getD_succ, u_not, pop, lop, aop, wop, resL, resV, tupleV, akV, isVal, isCell, Value.cells, List.map_cons, List.map_nil, Bool.not_true, Bool.not_false, Option.map_some, ↓reduceIte, Nat.reduceEqDiff, Nat.reduceAdd, Int.reduceOfNat, Int.reduceNegSucc, reduceCtorEq, List.getElem?_cons_zero, List.getElem?_cons_succ, List.length_cons, List.length_nil, srcR_c, src_n, src_v, src_s, bnd, lenV, capV, Option.isSome_none, Option.isNone_none, Option.isSome_some, Option.isNone_some, Bool.true_or, Bool.false_or, List.take_succ_cons, List.take_zero, List.drop_succ_cons, List.drop_zero, List.cons_append, List.nil_append, List.drop_nil, List.all_cons, List.all_nil, Bool.true_and, Kd.isRo, List.size_toArray, List.toList_toArray, bldV, Nat.reduceLeDiff, Int.reduceMul, Int.reduceAdd, Int.reduceSub, Int.reduceToNat, maxLen_eq, zeros_one, appS_some, appV_n, appV_v, appH_t, appH_f, Kd.isEx, Bool.false_and, partV, Nat.add_zero, Int.toNat_natCast]) | (with_reducible refine condK_dec (fun _ => ?_) (fun _ => ?_)) | (with_reducible refine grd_dec (fun _ => ?_) (fun _ => ?_)) | (with_reducible refine egrd_dec (fun _ => ?_) (fun _ => ?_)))
  have hn0 : H.nx + 1 ≤ (H.new (.cells [.slice p ws.length c, .int .i64 top] 24 .ex)).nx := Nat.le_refl _
  generalize (H.new (.cells [.slice p ws.length c, .int .i64 top] 24 .ex)) = K0 at hE0 hb0 hn0 ⊢
  refine (right_wp (hw.good hE0) top ht (by omega)).mono fun v K1 ⟨hv, hx1⟩ => ?_
  subst hv
  have hE1 := hE0.trans hx1
  have hn1 := hx1.nx
  have hb1 := (hx1.ob _ (by omega)).trans hb0
  cases hf : formF ws top with
  | none =>
    repeat' (first | (simp (disch := first | omega | (decide +kernel) | (repeat (first | assumption | exact HExt.refl _ | (refine HExt.set ?_ (by first | omega | (simp only [new_nx, set_nx]; omega)) _) | (refine HExt.new ?_ _)))) only [↓RD, RU, accW_t, accW_f, isW, ↓putF_get, ↓putF_none, ↓evF_t, ↓evF_c, ↓evF_f, new_nx, set_nx, new_get, set_get, getD_zero, getD_succ, u_not, pop, lop, aop, wop, resL, resV, tupleV, akV, isVal, isCell, Value.cells, List.map_cons, List.map_nil, Bool.not_true, Bool.not_false, Option.map_some, ↓reduceIte, Nat.reduceEqDiff, Nat.reduceAdd, Int.reduceOfNat, Int.reduceNegSucc, reduceCtorEq, List.getElem?_cons_zero, List.getElem?_cons_succ, List.length_cons, List.length_nil, srcR_c, src_n, src_v, src_s, bnd, lenV, capV, Option.isSome_none, Option.isNone_none, Option.isSome_some, Option.isNone_some, Bool.true_or, Bool.false_or, List.take_succ_cons, List.take_zero, List.drop_succ_cons, List.drop_zero, List.cons_append, List.nil_append, List.drop_nil, List.all_cons, List.all_nil, Bool.true_and, Kd.isRo, List.size_toArray, List.toList_toArray, bldV, Nat.reduceLeDiff, Int.reduceMul, Int.reduceAdd, Int.reduceSub, Int.reduceToNat, maxLen_eq, zeros_one, appS_some, appV_n, appV_v, appH_t, appH_f, Kd.isEx, Bool.false_and, partV, Nat.add_zero, Int.toNat_natCast, Option.isSome_none]) | (with_reducible refine condK_dec (fun _ => ?_) (fun _ => ?_)) | (with_reducible refine grd_dec (fun _ => ?_) (fun _ => ?_)) | (with_reducible refine egrd_dec (fun _ => ?_) (fun _ => ?_)))
    all_goals rfl
  | some l =>
  repeat' (first | (simp (disch := first | omega | (decide +kernel) | (repeat (first | assumption | exact HExt.refl _ | (refine HExt.set ?_ (by first | omega | (simp only [new_nx, set_nx]; omega)) _) | (refine HExt.new ?_ _)))) only [↓RD, RU, accW_t, accW_f, isW, ↓putF_get, ↓putF_none, ↓evF_t, ↓evF_c, ↓evF_f, new_nx, set_nx, new_get, set_get, getD_zero, getD_succ, u_not, pop, lop, aop, wop, resL, resV, tupleV, akV, isVal, isCell, Value.cells, List.map_cons, List.map_nil, Bool.not_true, Bool.not_false, Option.map_some, ↓reduceIte, Nat.reduceEqDiff, Nat.reduceAdd, Int.reduceOfNat, Int.reduceNegSucc, reduceCtorEq, List.getElem?_cons_zero, List.getElem?_cons_succ, List.length_cons, List.length_nil, srcR_c, src_n, src_v, src_s, bnd, lenV, capV, Option.isSome_none, Option.isNone_none, Option.isSome_some, Option.isNone_some, Bool.true_or, Bool.false_or, List.take_succ_cons, List.take_zero, List.drop_succ_cons, List.drop_zero, List.cons_append, List.nil_append, List.drop_nil, List.all_cons, List.all_nil, Bool.true_and, Kd.isRo, List.size_toArray, List.toList_toArray, bldV, Nat.reduceLeDiff, Int.reduceMul, Int.reduceAdd, Int.reduceSub, Int.reduceToNat, maxLen_eq, zeros_one, appS_some, appV_n, appV_v, appH_t, appH_f, Kd.isEx, Bool.false_and, partV, Nat.add_zero, Int.toNat_natCast, Option.isSome_some, hb1]) | (with_reducible refine condK_dec (fun _ => ?_) (fun _ => ?_)) | (with_reducible refine grd_dec (fun _ => ?_) (fun _ => ?_)) | (with_reducible refine egrd_dec (fun _ => ?_) (fun _ => ?_)))
  refine (regs_wp (hw.good hE1) top w ht h3 (by omega)).mono fun v K2 ⟨hx2, hv2⟩ => ?_
  have hE2 := hE1.trans hx2
  have hn2 := hx2.nx
  have hb2 := (hx2.ob _ (by omega)).trans hb1
  obtain ⟨nn, ee, hv2', hne⟩ : ∃ nn ee, v = .tuple #[.int .i64 nn, .int .i64 ee] ∧ (if isFr ws top w = true then nn = hdT (wd ws (w / 4).toNat) - 6 ∧ ee = 0 else nn = 0 ∧ ee = 1) := by
    rw [hv2]
    split
    · exact ⟨_, _, rfl, rfl, rfl⟩
    · exact ⟨_, _, rfl, rfl, rfl⟩
  subst hv2'
  clear hv2
  repeat' (first | (simp (disch := first | omega | (decide +kernel) | (repeat (first | assumption | exact HExt.refl _ | (refine HExt.set ?_ (by first | omega | (simp only [new_nx, set_nx]; omega)) _) | (refine HExt.new ?_ _)))) only [↓RD, RU, accW_t, accW_f, isW, ↓putF_get, ↓putF_none, ↓evF_t, ↓evF_c, ↓evF_f, new_nx, set_nx, new_get, set_get, getD_zero, getD_succ, u_not, pop, lop, aop, wop, resL, resV, tupleV, akV, isVal, isCell, Value.cells, List.map_cons, List.map_nil, Bool.not_true, Bool.not_false, Option.map_some, ↓reduceIte, Nat.reduceEqDiff, Nat.reduceAdd, Int.reduceOfNat, Int.reduceNegSucc, reduceCtorEq, List.getElem?_cons_zero, List.getElem?_cons_succ, List.length_cons, List.length_nil, srcR_c, src_n, src_v, src_s, bnd, lenV, capV, Option.isSome_none, Option.isNone_none, Option.isSome_some, Option.isNone_some, Bool.true_or, Bool.false_or, List.take_succ_cons, List.take_zero, List.drop_succ_cons, List.drop_zero, List.cons_append, List.nil_append, List.drop_nil, List.all_cons, List.all_nil, Bool.true_and, Kd.isRo, List.size_toArray, List.toList_toArray, bldV, Nat.reduceLeDiff, Int.reduceMul, Int.reduceAdd, Int.reduceSub, Int.reduceToNat, maxLen_eq, zeros_one, appS_some, appV_n, appV_v, appH_t, appH_f, Kd.isEx, Bool.false_and, partV, Nat.add_zero, Int.toNat_natCast, hb2]) | (with_reducible refine condK_dec (fun _ => ?_) (fun _ => ?_)) | (with_reducible refine grd_dec (fun _ => ?_) (fun _ => ?_)) | (with_reducible refine egrd_dec (fun _ => ?_) (fun _ => ?_)))
  refine (rcopy_wp (hw.good hE2) top hl).mono fun v K3 ⟨hx3, lr, cr, kr, hv, hlr1, hlr2, hobr, hkr, hcr1, hcr2⟩ => ?_
  subst hv
  have hE3 := hE2.trans hx3
  have hn3 := hx3.nx
  have hb3 := (hx3.ob _ (by omega)).trans hb2
  repeat' (first | (simp (disch := first | omega | (decide +kernel) | (repeat (first | assumption | exact HExt.refl _ | (refine HExt.set ?_ (by first | omega | (simp only [new_nx, set_nx]; omega)) _) | (refine HExt.new ?_ _)))) only [↓RD, RU, accW_t, accW_f, isW, ↓putF_get, ↓putF_none, ↓evF_t, ↓evF_c, ↓evF_f, new_nx, set_nx, new_get, set_get, getD_zero, getD_succ, u_not, pop, lop, aop, wop, resL, resV, tupleV, akV, isVal, isCell, Value.cells, List.map_cons, List.map_nil, Bool.not_true, Bool.not_false, Option.map_some, ↓reduceIte, Nat.reduceEqDiff, Nat.reduceAdd, Int.reduceOfNat, Int.reduceNegSucc, reduceCtorEq, List.getElem?_cons_zero, List.getElem?_cons_succ, List.length_cons, List.length_nil, srcR_c, src_n, src_v, src_s, bnd, lenV, capV, Option.isSome_none, Option.isNone_none, Option.isSome_some, Option.isNone_some, Bool.true_or, Bool.false_or, List.take_succ_cons, List.take_zero, List.drop_succ_cons, List.drop_zero, List.cons_append, List.nil_append, List.drop_nil, List.all_cons, List.all_nil, Bool.true_and, Kd.isRo, List.size_toArray, List.toList_toArray, bldV, Nat.reduceLeDiff, Int.reduceMul, Int.reduceAdd, Int.reduceSub, Int.reduceToNat, maxLen_eq, zeros_one, appS_some, appV_n, appV_v, appH_t, appH_f, Kd.isEx, Bool.false_and, partV, Nat.add_zero, Int.toNat_natCast]) | (with_reducible refine condK_dec (fun _ => ?_) (fun _ => ?_)) | (with_reducible refine grd_dec (fun _ => ?_) (fun _ => ?_)) | (with_reducible refine egrd_dec (fun _ => ?_) (fun _ => ?_)))
  obtain ⟨K4, hK4⟩ : ∃ K4, (K3.new (.cells [.slice none 0 0, .int .i64 0] 24 .ex)).set K3.nx (.cells [.slice (some ⟨lr, 0, none⟩) ws.length cr, .int .i64 top] 24 .ex) = K4 := ⟨_, rfl⟩
  have hx4 : HExt K3 K4 := by rw [← hK4]; (repeat (first | assumption | exact HExt.refl _ | (refine HExt.set ?_ (by first | omega | (simp only [new_nx, set_nx]; omega)) _) | (refine HExt.new ?_ _)))
  have hn4 : K4.nx = K3.nx + 1 := by rw [← hK4]; rfl
  have hM4 : MS K4 K3.nx lr cr kr ws top := ⟨by rw [← hK4]; repeat' (first | (simp (disch := first | omega | (decide +kernel) | (repeat (first | assumption | exact HExt.refl _ | (refine HExt.set ?_ (by first | omega | (simp only [new_nx, set_nx]; omega)) _) | (refine HExt.new ?_ _)))) only [↓RD, RU, accW_t, accW_f, isW, ↓putF_get, ↓putF_none, ↓evF_t, ↓evF_c, ↓evF_f, new_nx, set_nx, new_get, set_get, getD_zero, getD_succ, u_not, pop, lop, aop, wop, resL, resV, tupleV, akV, isVal, isCell, Value.cells, List.map_cons, List.map_nil, Bool.not_true, Bool.not_false, Option.map_some, ↓reduceIte, Nat.reduceEqDiff, Nat.reduceAdd, Int.reduceOfNat, Int.reduceNegSucc, reduceCtorEq, List.getElem?_cons_zero, List.getElem?_cons_succ, List.length_cons, List.length_nil, srcR_c, src_n, src_v, src_s, bnd, lenV, capV, Option.isSome_none, Option.isNone_none, Option.isSome_some, Option.isNone_some, Bool.true_or, Bool.false_or, List.take_succ_cons, List.take_zero, List.drop_succ_cons, List.drop_zero, List.cons_append, List.nil_append, List.drop_nil, List.all_cons, List.all_nil, Bool.true_and, Kd.isRo, List.size_toArray, List.toList_toArray, bldV, Nat.reduceLeDiff, Int.reduceMul, Int.reduceAdd, Int.reduceSub, Int.reduceToNat, maxLen_eq, zeros_one, appS_some, appV_n, appV_v, appH_t, appH_f, Kd.isEx, Bool.false_and, partV, Nat.add_zero, Int.toNat_natCast]) | (with_reducible refine condK_dec (fun _ => ?_) (fun _ => ?_)) | (with_reducible refine grd_dec (fun _ => ?_) (fun _ => ?_)) | (with_reducible refine egrd_dec (fun _ => ?_) (fun _ => ?_))), (hx4.ob _ hlr2).trans hobr, hkr, by omega, by omega, by omega, hcr1, hcr2, fun x hx => by
    obtain ⟨i, hi, rfl⟩ := List.getElem_of_mem hx
    obtain ⟨_, _, _, _, _, _, _, _, _, _, _, _, hwf⟩ := hw.1.ints (by omega)
    have := hwf i hi
    rwa [List.getD_eq_getElem?_getD, List.getElem?_eq_getElem hi] at this, ht⟩
  rw [hK4]
  have hE4 := hE3.trans hx4
  have hrm := room_wp (hlv.sl.good (CInt.good _) hE4) (by simpa using hll)
  simp only [List.length_map] at hrm
  repeat' (first | (simp (disch := first | omega | (decide +kernel) | (repeat (first | assumption | exact HExt.refl _ | (refine HExt.set ?_ (by first | omega | (simp only [new_nx, set_nx]; omega)) _) | (refine HExt.new ?_ _)))) only [↓RD, RU, accW_t, accW_f, isW, ↓putF_get, ↓putF_none, ↓evF_t, ↓evF_c, ↓evF_f, new_nx, set_nx, new_get, set_get, getD_zero, getD_succ, u_not, pop, lop, aop, wop, resL, resV, tupleV, akV, isVal, isCell, Value.cells, List.map_cons, List.map_nil, Bool.not_true, Bool.not_false, Option.map_some, ↓reduceIte, Nat.reduceEqDiff, Nat.reduceAdd, Int.reduceOfNat, Int.reduceNegSucc, reduceCtorEq, List.getElem?_cons_zero, List.getElem?_cons_succ, List.length_cons, List.length_nil, srcR_c, src_n, src_v, src_s, bnd, lenV, capV, Option.isSome_none, Option.isNone_none, Option.isSome_some, Option.isNone_some, Bool.true_or, Bool.false_or, List.take_succ_cons, List.take_zero, List.drop_succ_cons, List.drop_zero, List.cons_append, List.nil_append, List.drop_nil, List.all_cons, List.all_nil, Bool.true_and, Kd.isRo, List.size_toArray, List.toList_toArray, bldV, Nat.reduceLeDiff, Int.reduceMul, Int.reduceAdd, Int.reduceSub, Int.reduceToNat, maxLen_eq, zeros_one, appS_some, appV_n, appV_v, appH_t, appH_f, Kd.isEx, Bool.false_and, partV, Nat.add_zero, Int.toNat_natCast]) | (with_reducible refine condK_dec (fun _ => ?_) (fun _ => ?_)) | (with_reducible refine grd_dec (fun _ => ?_) (fun _ => ?_)) | (with_reducible refine egrd_dec (fun _ => ?_) (fun _ => ?_)))
  refine hrm.mono fun v K5 ⟨hx5, hn5, hv, hob5⟩ => ?_
  subst hv
  have hE5 := hE4.trans hx5
  have hM5 := hM4.mv hx5
  have hlv5 := wat_room hob5 (by omega) hlv.w64 hll
  repeat' (first | (simp (disch := first | omega | (decide +kernel) | (repeat (first | assumption | exact HExt.refl _ | (refine HExt.set ?_ (by first | omega | (simp only [new_nx, set_nx]; omega)) _) | (refine HExt.new ?_ _)))) only [↓RD, RU, accW_t, accW_f, isW, ↓putF_get, ↓putF_none, ↓evF_t, ↓evF_c, ↓evF_f, new_nx, set_nx, new_get, set_get, getD_zero, getD_succ, u_not, pop, lop, aop, wop, resL, resV, tupleV, akV, isVal, isCell, Value.cells, List.map_cons, List.map_nil, Bool.not_true, Bool.not_false, Option.map_some, ↓reduceIte, Nat.reduceEqDiff, Nat.reduceAdd, Int.reduceOfNat, Int.reduceNegSucc, reduceCtorEq, List.getElem?_cons_zero, List.getElem?_cons_succ, List.length_cons, List.length_nil, srcR_c, src_n, src_v, src_s, bnd, lenV, capV, Option.isSome_none, Option.isNone_none, Option.isSome_some, Option.isNone_some, Bool.true_or, Bool.false_or, List.take_succ_cons, List.take_zero, List.drop_succ_cons, List.drop_zero, List.cons_append, List.nil_append, List.drop_nil, List.all_cons, List.all_nil, Bool.true_and, Kd.isRo, List.size_toArray, List.toList_toArray, bldV, Nat.reduceLeDiff, Int.reduceMul, Int.reduceAdd, Int.reduceSub, Int.reduceToNat, maxLen_eq, zeros_one, appS_some, appV_n, appV_v, appH_t, appH_f, Kd.isEx, Bool.false_and, partV, Nat.add_zero, Int.toNat_natCast]) | (with_reducible refine condK_dec (fun _ => ?_) (fun _ => ?_)) | (with_reducible refine grd_dec (fun _ => ?_) (fun _ => ?_)) | (with_reducible refine egrd_dec (fun _ => ?_) (fun _ => ?_)))
  refine (clear_wp hM5 hlv5 (fun x o e => by cases e; omega) (by omega) w h3).mono fun v K6 ⟨hv, hbt6, us, hM6, hus⟩ => ?_
  subst hv
  have hob6 := (hbt6.ob K4.nx (by omega) (by omega) (by omega)).trans hob5
  have hE6 := hbt6.ext hE5 (by omega) (by omega)
  have hn6 := hbt6.nx
  have hb6 : K6.ob H.nx = .cells [.slice p ws.length c, .int .i64 top] 24 .ex := (hbt6.ob _ (by omega) (by omega) (by omega)).trans ((hx5.ob _ (by omega)).trans ((hx4.ob _ (by omega)).trans hb3))
  have hkp := kept_wp hob6 (hlv.sl.good (CInt.good _) hE6) (by simpa using hll)
  simp only [List.length_map] at hkp
  have hmb6 := hM6.hmb
  cases hfr : isFr ws top w with
  | false =>
    rw [hfr] at hne hus
    simp only [Bool.false_eq_true, if_false] at hne hus
    obtain ⟨rfl, rfl⟩ := hne
    subst hus
    repeat' (first | (simp (disch := first | omega | (decide +kernel) | (repeat (first | assumption | exact HExt.refl _ | (refine HExt.set ?_ (by first | omega | (simp only [new_nx, set_nx]; omega)) _) | (refine HExt.new ?_ _)))) only [↓RD, RU, accW_t, accW_f, isW, ↓putF_get, ↓putF_none, ↓evF_t, ↓evF_c, ↓evF_f, new_nx, set_nx, new_get, set_get, getD_zero, getD_succ, u_not, pop, lop, aop, wop, resL, resV, tupleV, akV, isVal, isCell, Value.cells, List.map_cons, List.map_nil, Bool.not_true, Bool.not_false, Option.map_some, ↓reduceIte, Nat.reduceEqDiff, Nat.reduceAdd, Int.reduceOfNat, Int.reduceNegSucc, reduceCtorEq, List.getElem?_cons_zero, List.getElem?_cons_succ, List.length_cons, List.length_nil, srcR_c, src_n, src_v, src_s, bnd, lenV, capV, Option.isSome_none, Option.isNone_none, Option.isSome_some, Option.isNone_some, Bool.true_or, Bool.false_or, List.take_succ_cons, List.take_zero, List.drop_succ_cons, List.drop_zero, List.cons_append, List.nil_append, List.drop_nil, List.all_cons, List.all_nil, Bool.true_and, Kd.isRo, List.size_toArray, List.toList_toArray, bldV, Nat.reduceLeDiff, Int.reduceMul, Int.reduceAdd, Int.reduceSub, Int.reduceToNat, maxLen_eq, zeros_one, appS_some, appV_n, appV_v, appH_t, appH_f, Kd.isEx, Bool.false_and, partV, Nat.add_zero, Int.toNat_natCast]) | (with_reducible refine condK_dec (fun _ => ?_) (fun _ => ?_)) | (with_reducible refine grd_dec (fun _ => ?_) (fun _ => ?_)) | (with_reducible refine egrd_dec (fun _ => ?_) (fun _ => ?_)))
    refine hkp.mono fun v K7 ⟨hv, hK7⟩ => ?_
    subst hv hK7
    repeat' (first | (simp (disch := first | omega | (decide +kernel) | (repeat (first | assumption | exact HExt.refl _ | (refine HExt.set ?_ (by first | omega | (simp only [new_nx, set_nx]; omega)) _) | (refine HExt.new ?_ _)))) only [↓RD, RU, accW_t, accW_f, isW, ↓putF_get, ↓putF_none, ↓evF_t, ↓evF_c, ↓evF_f, new_nx, set_nx, new_get, set_get, getD_zero, getD_succ, u_not, pop, lop, aop, wop, resL, resV, tupleV, akV, isVal, isCell, Value.cells, List.map_cons, List.map_nil, Bool.not_true, Bool.not_false, Option.map_some, ↓reduceIte, Nat.reduceEqDiff, Nat.reduceAdd, Int.reduceOfNat, Int.reduceNegSucc, reduceCtorEq, List.getElem?_cons_zero, List.getElem?_cons_succ, List.length_cons, List.length_nil, srcR_c, src_n, src_v, src_s, bnd, lenV, capV, Option.isSome_none, Option.isNone_none, Option.isSome_some, Option.isNone_some, Bool.true_or, Bool.false_or, List.take_succ_cons, List.take_zero, List.drop_succ_cons, List.drop_zero, List.cons_append, List.nil_append, List.drop_nil, List.all_cons, List.all_nil, Bool.true_and, Kd.isRo, List.size_toArray, List.toList_toArray, bldV, Nat.reduceLeDiff, Int.reduceMul, Int.reduceAdd, Int.reduceSub, Int.reduceToNat, maxLen_eq, zeros_one, appS_some, appV_n, appV_v, appH_t, appH_f, Kd.isEx, Bool.false_and, partV, Nat.add_zero, Int.toNat_natCast, hmb6, hb6]) | (with_reducible refine condK_dec (fun _ => ?_) (fun _ => ?_)) | (with_reducible refine grd_dec (fun _ => ?_) (fun _ => ?_)) | (with_reducible refine egrd_dec (fun _ => ?_) (fun _ => ?_)))
    refine (rsame_wp hM6.words.1 (hw.good hE6).1 top top (by omega) (by omega)).mono fun v K8 ⟨hv, hx8⟩ => ?_
    subst hv
    repeat' (first | (simp (disch := first | omega | (decide +kernel) | (repeat (first | assumption | exact HExt.refl _ | (refine HExt.set ?_ (by first | omega | (simp only [new_nx, set_nx]; omega)) _) | (refine HExt.new ?_ _)))) only [↓RD, RU, accW_t, accW_f, isW, ↓putF_get, ↓putF_none, ↓evF_t, ↓evF_c, ↓evF_f, new_nx, set_nx, new_get, set_get, getD_zero, getD_succ, u_not, pop, lop, aop, wop, resL, resV, tupleV, akV, isVal, isCell, Value.cells, List.map_cons, List.map_nil, Bool.not_true, Bool.not_false, Option.map_some, ↓reduceIte, Nat.reduceEqDiff, Nat.reduceAdd, Int.reduceOfNat, Int.reduceNegSucc, reduceCtorEq, List.getElem?_cons_zero, List.getElem?_cons_succ, List.length_cons, List.length_nil, srcR_c, src_n, src_v, src_s, bnd, lenV, capV, Option.isSome_none, Option.isNone_none, Option.isSome_some, Option.isNone_some, Bool.true_or, Bool.false_or, List.take_succ_cons, List.take_zero, List.drop_succ_cons, List.drop_zero, List.cons_append, List.nil_append, List.drop_nil, List.all_cons, List.all_nil, Bool.true_and, Kd.isRo, List.size_toArray, List.toList_toArray, bldV, Nat.reduceLeDiff, Int.reduceMul, Int.reduceAdd, Int.reduceSub, Int.reduceToNat, maxLen_eq, zeros_one, appS_some, appV_n, appV_v, appH_t, appH_f, Kd.isEx, Bool.false_and, partV, Nat.add_zero, Int.toNat_natCast]) | (with_reducible refine condK_dec (fun _ => ?_) (fun _ => ?_)) | (with_reducible refine grd_dec (fun _ => ?_) (fun _ => ?_)) | (with_reducible refine egrd_dec (fun _ => ?_) (fun _ => ?_)))
    all_goals simp
  | true =>
    rw [hfr] at hne hus
    simp only [if_true] at hne hus
    obtain ⟨rfl, rfl⟩ := hne
    have hfr' := hfr
    simp only [isFr, Bool.and_eq_true, decide_eq_true_eq] at hfr'
    obtain ⟨hsee, c1, c2, c3⟩ := hfr'
    have hsee' := hsee
    simp only [seeW, Bool.and_eq_true, decide_eq_true_eq] at hsee'
    obtain ⟨hk, hin, hok⟩ := hsee'
    have hkb := kind0 hk
    obtain ⟨a, ha⟩ : ∃ a : Nat, w / 4 = (a : Int) := ⟨(w / 4).toNat, by omega⟩
    rw [ha] at hin hok c1 c2 c3 hus hkb
    rw [Int.toNat_natCast] at hok c1 c2 c3 hus
    have hd := hd_bounds (h := wd ws a)
    obtain ⟨n, hnn⟩ : ∃ n : Nat, hdT (wd ws a) - 6 = (n : Int) := ⟨(hdT (wd ws a) - 6).toNat, by omega⟩
    rw [hnn, Int.toNat_natCast] at hus
    have hul := hus.len
    rw [hul] at hmb6
    have hwb6 := hM6.hwb
    have hn' : hdT (wd ws (w / 4).toNat) - 6 = (n : Int) := by rw [ha, Int.toNat_natCast]; exact hnn
    repeat' (first | (simp (disch := first | omega | (decide +kernel) | (repeat (first | assumption | exact HExt.refl _ | (refine HExt.set ?_ (by first | omega | (simp only [new_nx, set_nx]; omega)) _) | (refine HExt.new ?_ _)))) only [↓RD, RU, accW_t, accW_f, isW, ↓putF_get, ↓putF_none, ↓evF_t, ↓evF_c, ↓evF_f, new_nx, set_nx, new_get, set_get, getD_zero, getD_succ, u_not, pop, lop, aop, wop, resL, resV, tupleV, akV, isVal, isCell, Value.cells, List.map_cons, List.map_nil, Bool.not_true, Bool.not_false, Option.map_some, ↓reduceIte, Nat.reduceEqDiff, Nat.reduceAdd, Int.reduceOfNat, Int.reduceNegSucc, reduceCtorEq, List.getElem?_cons_zero, List.getElem?_cons_succ, List.length_cons, List.length_nil, srcR_c, src_n, src_v, src_s, bnd, lenV, capV, Option.isSome_none, Option.isNone_none, Option.isSome_some, Option.isNone_some, Bool.true_or, Bool.false_or, List.take_succ_cons, List.take_zero, List.drop_succ_cons, List.drop_zero, List.cons_append, List.nil_append, List.drop_nil, List.all_cons, List.all_nil, Bool.true_and, Kd.isRo, List.size_toArray, List.toList_toArray, bldV, Nat.reduceLeDiff, Int.reduceMul, Int.reduceAdd, Int.reduceSub, Int.reduceToNat, maxLen_eq, zeros_one, appS_some, appV_n, appV_v, appH_t, appH_f, Kd.isEx, Bool.false_and, partV, Nat.add_zero, Int.toNat_natCast, hn']) | (with_reducible refine condK_dec (fun _ => ?_) (fun _ => ?_)) | (with_reducible refine grd_dec (fun _ => ?_) (fun _ => ?_)) | (with_reducible refine egrd_dec (fun _ => ?_) (fun _ => ?_)))
    refine hkp.mono fun v K7 ⟨hv, hK7⟩ => ?_
    subst hv hK7
    repeat' (first | (simp (disch := first | omega | (decide +kernel) | (repeat (first | assumption | exact HExt.refl _ | (refine HExt.set ?_ (by first | omega | (simp only [new_nx, set_nx]; omega)) _) | (refine HExt.new ?_ _)))) only [↓RD, RU, accW_t, accW_f, isW, ↓putF_get, ↓putF_none, ↓evF_t, ↓evF_c, ↓evF_f, new_nx, set_nx, new_get, set_get, getD_zero, getD_succ, u_not, pop, lop, aop, wop, resL, resV, tupleV, akV, isVal, isCell, Value.cells, List.map_cons, List.map_nil, Bool.not_true, Bool.not_false, Option.map_some, ↓reduceIte, Nat.reduceEqDiff, Nat.reduceAdd, Int.reduceOfNat, Int.reduceNegSucc, reduceCtorEq, List.getElem?_cons_zero, List.getElem?_cons_succ, List.length_cons, List.length_nil, srcR_c, src_n, src_v, src_s, bnd, lenV, capV, Option.isSome_none, Option.isNone_none, Option.isSome_some, Option.isNone_some, Bool.true_or, Bool.false_or, List.take_succ_cons, List.take_zero, List.drop_succ_cons, List.drop_zero, List.cons_append, List.nil_append, List.drop_nil, List.all_cons, List.all_nil, Bool.true_and, Kd.isRo, List.size_toArray, List.toList_toArray, bldV, Nat.reduceLeDiff, Int.reduceMul, Int.reduceAdd, Int.reduceSub, Int.reduceToNat, maxLen_eq, zeros_one, appS_some, appV_n, appV_v, appH_t, appH_f, Kd.isEx, Bool.false_and, partV, Nat.add_zero, Int.toNat_natCast, ha]) | (with_reducible refine condK_dec (fun _ => ?_) (fun _ => ?_)) | (with_reducible refine grd_dec (fun _ => ?_) (fun _ => ?_)) | (with_reducible refine egrd_dec (fun _ => ?_) (fun _ => ?_)))
    have hwE := hw.good hE6
    refine loop_w (fun m fr G => ∃ i : Nat, m = ws.length - i ∧ i ≤ ws.length ∧ fr 13 = .int .i64 (i : Int) ∧ G = K7) (n := ws.length) ⟨0, rfl, Nat.zero_le _, by (repeat' (first | (simp (disch := first | omega | (decide +kernel) | (repeat (first | assumption | exact HExt.refl _ | (refine HExt.set ?_ (by first | omega | (simp only [new_nx, set_nx]; omega)) _) | (refine HExt.new ?_ _)))) only [↓RD, RU, accW_t, accW_f, isW, ↓putF_get, ↓putF_none, ↓evF_t, ↓evF_c, ↓evF_f, new_nx, set_nx, new_get, set_get, getD_zero, getD_succ, u_not, pop, lop, aop, wop, resL, resV, tupleV, akV, isVal, isCell, Value.cells, List.map_cons, List.map_nil, Bool.not_true, Bool.not_false, Option.map_some, ↓reduceIte, Nat.reduceEqDiff, Nat.reduceAdd, Int.reduceOfNat, Int.reduceNegSucc, reduceCtorEq, List.getElem?_cons_zero, List.getElem?_cons_succ, List.length_cons, List.length_nil, srcR_c, src_n, src_v, src_s, bnd, lenV, capV, Option.isSome_none, Option.isNone_none, Option.isSome_some, Option.isNone_some, Bool.true_or, Bool.false_or, List.take_succ_cons, List.take_zero, List.drop_succ_cons, List.drop_zero, List.cons_append, List.nil_append, List.drop_nil, List.all_cons, List.all_nil, Bool.true_and, Kd.isRo, List.size_toArray, List.toList_toArray, bldV, Nat.reduceLeDiff, Int.reduceMul, Int.reduceAdd, Int.reduceSub, Int.reduceToNat, maxLen_eq, zeros_one, appS_some, appV_n, appV_v, appH_t, appH_f, Kd.isEx, Bool.false_and, partV, Nat.add_zero, Int.toNat_natCast]) | (with_reducible refine condK_dec (fun _ => ?_) (fun _ => ?_)) | (with_reducible refine grd_dec (fun _ => ?_) (fun _ => ?_)) | (with_reducible refine egrd_dec (fun _ => ?_) (fun _ => ?_)))); all_goals rfl, rfl⟩ ?_
    rintro m fr G ⟨i, rfl, hi, f13, rfl⟩ hag
    by_cases hil : i < ws.length
    · obtain ⟨lx, ox, osx, ex, kx, hpx, hlx, hcx, hmx, hobx, holx, hosx, hwfx⟩ := hwE.1.ints (by omega)
      have g1 : osx[ox + i]? = some (.int .u64 (wd ws i)) := hosx i hil
      have g2 : (us.map (Value.int .u64))[i]? = some (.int .u64 (wd us i)) := get_map (by omega)
      have hat := hus.at' i hil
      rw [hpx] at hb6
      by_cases hr1 : (a : Int) + 8 ≤ i ∧ (i : Int) - ((a : Int) + 8) < n
      · obtain ⟨r, hr⟩ : ∃ r : Nat, (i : Int) - ((a : Int) + 8) = (r : Int) := ⟨i - (a + 8), by omega⟩
        have hir : i - (a + 8) = r := by omega
        have hq1 : (r : Int) / 64 = ((r / 64 : Nat) : Int) := by simp
        have hq2 : (r : Int) % 64 = ((r % 64 : Nat) : Int) := by simp
        rw [hir] at hat
        by_cases hj : r / 64 < lv.length
        · obtain ⟨l4, o4, os4, e4, k4, rfl, hl4, hob4, hos4⟩ := (hlv.good hE6).get (by omega)
          have hg4 := hos4 (r / 64) hj
          have h1 := b_shrN (a := lv.getD (r / 64) 0) (k := r % 64) (by omega)
          have h2 := b_and1N (a := lv.getD (r / 64) 0 >>> (r % 64)) (Nat.lt_of_le_of_lt (Nat.shiftRight_le _ _) (hlv.w64.get _))
          have h4 : decide (((lv.getD (r / 64) 0 >>> (r % 64) &&& 1 : Nat) : Int) = 0) = !bitW lv r := bit_dec0
          cases hbit : bitW lv r with
          | true =>
            rw [hbit] at h4 hat
            rw [if_neg (by simp)] at hat
            rw [hat] at g2
            repeat' (first | (simp (disch := first | omega | (decide +kernel) | (repeat (first | assumption | exact HExt.refl _ | (refine HExt.set ?_ (by first | omega | (simp only [new_nx, set_nx]; omega)) _) | (refine HExt.new ?_ _)))) only [↓RD, RU, accW_t, accW_f, isW, ↓putF_get, ↓putF_none, ↓evF_t, ↓evF_c, ↓evF_f, new_nx, set_nx, new_get, set_get, getD_zero, getD_succ, u_not, pop, lop, aop, wop, resL, resV, tupleV, akV, isVal, isCell, Value.cells, List.map_cons, List.map_nil, Bool.not_true, Bool.not_false, Option.map_some, ↓reduceIte, Nat.reduceEqDiff, Nat.reduceAdd, Int.reduceOfNat, Int.reduceNegSucc, reduceCtorEq, List.getElem?_cons_zero, List.getElem?_cons_succ, List.length_cons, List.length_nil, srcR_c, src_n, src_v, src_s, bnd, lenV, capV, Option.isSome_none, Option.isNone_none, Option.isSome_some, Option.isNone_some, Bool.true_or, Bool.false_or, List.take_succ_cons, List.take_zero, List.drop_succ_cons, List.drop_zero, List.cons_append, List.nil_append, List.drop_nil, List.all_cons, List.all_nil, Bool.true_and, Kd.isRo, List.size_toArray, List.toList_toArray, bldV, Nat.reduceLeDiff, Int.reduceMul, Int.reduceAdd, Int.reduceSub, Int.reduceToNat, maxLen_eq, zeros_one, appS_some, appV_n, appV_v, appH_t, appH_f, Kd.isEx, Bool.false_and, partV, Nat.add_zero, Int.toNat_natCast, f13, hag, hr, hq1, hq2, hob4, hg4, h1, h2, h4, hmb6, hwb6, hb6, hobx, g1, g2]) | (with_reducible refine condK_dec (fun _ => ?_) (fun _ => ?_)) | (with_reducible refine grd_dec (fun _ => ?_) (fun _ => ?_)) | (with_reducible refine egrd_dec (fun _ => ?_) (fun _ => ?_)))
            exact ⟨_, by omega, i + 1, rfl, by omega, rfl⟩
          | false =>
            rw [hbit] at h4 hat
            rw [if_pos ⟨by omega, by omega, rfl⟩] at hat
            rw [hat] at g2
            repeat' (first | (simp (disch := first | omega | (decide +kernel) | (repeat (first | assumption | exact HExt.refl _ | (refine HExt.set ?_ (by first | omega | (simp only [new_nx, set_nx]; omega)) _) | (refine HExt.new ?_ _)))) only [↓RD, RU, accW_t, accW_f, isW, ↓putF_get, ↓putF_none, ↓evF_t, ↓evF_c, ↓evF_f, new_nx, set_nx, new_get, set_get, getD_zero, getD_succ, u_not, pop, lop, aop, wop, resL, resV, tupleV, akV, isVal, isCell, Value.cells, List.map_cons, List.map_nil, Bool.not_true, Bool.not_false, Option.map_some, ↓reduceIte, Nat.reduceEqDiff, Nat.reduceAdd, Int.reduceOfNat, Int.reduceNegSucc, reduceCtorEq, List.getElem?_cons_zero, List.getElem?_cons_succ, List.length_cons, List.length_nil, srcR_c, src_n, src_v, src_s, bnd, lenV, capV, Option.isSome_none, Option.isNone_none, Option.isSome_some, Option.isNone_some, Bool.true_or, Bool.false_or, List.take_succ_cons, List.take_zero, List.drop_succ_cons, List.drop_zero, List.cons_append, List.nil_append, List.drop_nil, List.all_cons, List.all_nil, Bool.true_and, Kd.isRo, List.size_toArray, List.toList_toArray, bldV, Nat.reduceLeDiff, Int.reduceMul, Int.reduceAdd, Int.reduceSub, Int.reduceToNat, maxLen_eq, zeros_one, appS_some, appV_n, appV_v, appH_t, appH_f, Kd.isEx, Bool.false_and, partV, Nat.add_zero, Int.toNat_natCast, f13, hag, hr, hq1, hq2, hob4, hg4, h1, h2, h4, hmb6, hwb6, hb6, hobx, g1, g2]) | (with_reducible refine condK_dec (fun _ => ?_) (fun _ => ?_)) | (with_reducible refine grd_dec (fun _ => ?_) (fun _ => ?_)) | (with_reducible refine egrd_dec (fun _ => ?_) (fun _ => ?_)))
            exact ⟨_, by omega, i + 1, rfl, by omega, rfl⟩
        · have hbit : bitW lv r = false := by
            unfold bitW
            rw [List.getD_eq_getElem?_getD, List.getElem?_eq_none (by omega)]; simp
          rw [if_pos ⟨by omega, by omega, hbit⟩] at hat
          rw [hat] at g2
          repeat' (first | (simp (disch := first | omega | (decide +kernel) | (repeat (first | assumption | exact HExt.refl _ | (refine HExt.set ?_ (by first | omega | (simp only [new_nx, set_nx]; omega)) _) | (refine HExt.new ?_ _)))) only [↓RD, RU, accW_t, accW_f, isW, ↓putF_get, ↓putF_none, ↓evF_t, ↓evF_c, ↓evF_f, new_nx, set_nx, new_get, set_get, getD_zero, getD_succ, u_not, pop, lop, aop, wop, resL, resV, tupleV, akV, isVal, isCell, Value.cells, List.map_cons, List.map_nil, Bool.not_true, Bool.not_false, Option.map_some, ↓reduceIte, Nat.reduceEqDiff, Nat.reduceAdd, Int.reduceOfNat, Int.reduceNegSucc, reduceCtorEq, List.getElem?_cons_zero, List.getElem?_cons_succ, List.length_cons, List.length_nil, srcR_c, src_n, src_v, src_s, bnd, lenV, capV, Option.isSome_none, Option.isNone_none, Option.isSome_some, Option.isNone_some, Bool.true_or, Bool.false_or, List.take_succ_cons, List.take_zero, List.drop_succ_cons, List.drop_zero, List.cons_append, List.nil_append, List.drop_nil, List.all_cons, List.all_nil, Bool.true_and, Kd.isRo, List.size_toArray, List.toList_toArray, bldV, Nat.reduceLeDiff, Int.reduceMul, Int.reduceAdd, Int.reduceSub, Int.reduceToNat, maxLen_eq, zeros_one, appS_some, appV_n, appV_v, appH_t, appH_f, Kd.isEx, Bool.false_and, partV, Nat.add_zero, Int.toNat_natCast, f13, hag, hr, hq1, hq2, hmb6, hwb6, hb6, hobx, g1, g2]) | (with_reducible refine condK_dec (fun _ => ?_) (fun _ => ?_)) | (with_reducible refine grd_dec (fun _ => ?_) (fun _ => ?_)) | (with_reducible refine egrd_dec (fun _ => ?_) (fun _ => ?_)))
          exact ⟨_, by omega, i + 1, rfl, by omega, rfl⟩
      · rw [if_neg (by omega)] at hat
        rw [hat] at g2
        by_cases hr2 : (a : Int) + 8 ≤ i
        · repeat' (first | (simp (disch := first | omega | (decide +kernel) | (repeat (first | assumption | exact HExt.refl _ | (refine HExt.set ?_ (by first | omega | (simp only [new_nx, set_nx]; omega)) _) | (refine HExt.new ?_ _)))) only [↓RD, RU, accW_t, accW_f, isW, ↓putF_get, ↓putF_none, ↓evF_t, ↓evF_c, ↓evF_f, new_nx, set_nx, new_get, set_get, getD_zero, getD_succ, u_not, pop, lop, aop, wop, resL, resV, tupleV, akV, isVal, isCell, Value.cells, List.map_cons, List.map_nil, Bool.not_true, Bool.not_false, Option.map_some, ↓reduceIte, Nat.reduceEqDiff, Nat.reduceAdd, Int.reduceOfNat, Int.reduceNegSucc, reduceCtorEq, List.getElem?_cons_zero, List.getElem?_cons_succ, List.length_cons, List.length_nil, srcR_c, src_n, src_v, src_s, bnd, lenV, capV, Option.isSome_none, Option.isNone_none, Option.isSome_some, Option.isNone_some, Bool.true_or, Bool.false_or, List.take_succ_cons, List.take_zero, List.drop_succ_cons, List.drop_zero, List.cons_append, List.nil_append, List.drop_nil, List.all_cons, List.all_nil, Bool.true_and, Kd.isRo, List.size_toArray, List.toList_toArray, bldV, Nat.reduceLeDiff, Int.reduceMul, Int.reduceAdd, Int.reduceSub, Int.reduceToNat, maxLen_eq, zeros_one, appS_some, appV_n, appV_v, appH_t, appH_f, Kd.isEx, Bool.false_and, partV, Nat.add_zero, Int.toNat_natCast, f13, hag, hmb6, hwb6, hb6, hobx, g1, g2]) | (with_reducible refine condK_dec (fun _ => ?_) (fun _ => ?_)) | (with_reducible refine grd_dec (fun _ => ?_) (fun _ => ?_)) | (with_reducible refine egrd_dec (fun _ => ?_) (fun _ => ?_)))
          exact ⟨_, by omega, i + 1, rfl, by omega, rfl⟩
        · repeat' (first | (simp (disch := first | omega | (decide +kernel) | (repeat (first | assumption | exact HExt.refl _ | (refine HExt.set ?_ (by first | omega | (simp only [new_nx, set_nx]; omega)) _) | (refine HExt.new ?_ _)))) only [↓RD, RU, accW_t, accW_f, isW, ↓putF_get, ↓putF_none, ↓evF_t, ↓evF_c, ↓evF_f, new_nx, set_nx, new_get, set_get, getD_zero, getD_succ, u_not, pop, lop, aop, wop, resL, resV, tupleV, akV, isVal, isCell, Value.cells, List.map_cons, List.map_nil, Bool.not_true, Bool.not_false, Option.map_some, ↓reduceIte, Nat.reduceEqDiff, Nat.reduceAdd, Int.reduceOfNat, Int.reduceNegSucc, reduceCtorEq, List.getElem?_cons_zero, List.getElem?_cons_succ, List.length_cons, List.length_nil, srcR_c, src_n, src_v, src_s, bnd, lenV, capV, Option.isSome_none, Option.isNone_none, Option.isSome_some, Option.isNone_some, Bool.true_or, Bool.false_or, List.take_succ_cons, List.take_zero, List.drop_succ_cons, List.drop_zero, List.cons_append, List.nil_append, List.drop_nil, List.all_cons, List.all_nil, Bool.true_and, Kd.isRo, List.size_toArray, List.toList_toArray, bldV, Nat.reduceLeDiff, Int.reduceMul, Int.reduceAdd, Int.reduceSub, Int.reduceToNat, maxLen_eq, zeros_one, appS_some, appV_n, appV_v, appH_t, appH_f, Kd.isEx, Bool.false_and, partV, Nat.add_zero, Int.toNat_natCast, f13, hag, hmb6, hwb6, hb6, hobx, g1, g2]) | (with_reducible refine condK_dec (fun _ => ?_) (fun _ => ?_)) | (with_reducible refine grd_dec (fun _ => ?_) (fun _ => ?_)) | (with_reducible refine egrd_dec (fun _ => ?_) (fun _ => ?_)))
          exact ⟨_, by omega, i + 1, rfl, by omega, rfl⟩
    · repeat' (first | (simp (disch := first | omega | (decide +kernel) | (repeat (first | assumption | exact HExt.refl _ | (refine HExt.set ?_ (by first | omega | (simp only [new_nx, set_nx]; omega)) _) | (refine HExt.new ?_ _)))) only [↓RD, RU, accW_t, accW_f, isW, ↓putF_get, ↓putF_none, ↓evF_t, ↓evF_c, ↓evF_f, new_nx, set_nx, new_get, set_get, getD_zero, getD_succ, u_not, pop, lop, aop, wop, resL, resV, tupleV, akV, isVal, isCell, Value.cells, List.map_cons, List.map_nil, Bool.not_true, Bool.not_false, Option.map_some, ↓reduceIte, Nat.reduceEqDiff, Nat.reduceAdd, Int.reduceOfNat, Int.reduceNegSucc, reduceCtorEq, List.getElem?_cons_zero, List.getElem?_cons_succ, List.length_cons, List.length_nil, srcR_c, src_n, src_v, src_s, bnd, lenV, capV, Option.isSome_none, Option.isNone_none, Option.isSome_some, Option.isNone_some, Bool.true_or, Bool.false_or, List.take_succ_cons, List.take_zero, List.drop_succ_cons, List.drop_zero, List.cons_append, List.nil_append, List.drop_nil, List.all_cons, List.all_nil, Bool.true_and, Kd.isRo, List.size_toArray, List.toList_toArray, bldV, Nat.reduceLeDiff, Int.reduceMul, Int.reduceAdd, Int.reduceSub, Int.reduceToNat, maxLen_eq, zeros_one, appS_some, appV_n, appV_v, appH_t, appH_f, Kd.isEx, Bool.false_and, partV, Nat.add_zero, Int.toNat_natCast, f13, hag, hmb6, hb6]) | (with_reducible refine condK_dec (fun _ => ?_) (fun _ => ?_)) | (with_reducible refine grd_dec (fun _ => ?_) (fun _ => ?_)) | (with_reducible refine egrd_dec (fun _ => ?_) (fun _ => ?_)))
      have hck := check_wp hM6.words top ht.1 ht.2 (by omega)
      rw [hul] at hck
      refine hck.mono fun v K8 ⟨hv, hx8⟩ => ?_
      obtain ⟨t, rfl⟩ := Int.eq_ofNat_of_zero_le (show 0 ≤ top by have := (form_parts hf).2.2.1; omega)
      have hmem : (a : Int) ∈ l → (formF us (t : Int)).isSome = true := fun hm => by
        rw [form_clear hf hm n (by omega) hus]; rfl
      cases hs : (formF us (t : Int)).isSome with
      | true =>
        rw [hs] at hv
        simp only [if_true] at hv
        subst hv
        repeat' (first | (simp (disch := first | omega | (decide +kernel) | (repeat (first | assumption | exact HExt.refl _ | (refine HExt.set ?_ (by first | omega | (simp only [new_nx, set_nx]; omega)) _) | (refine HExt.new ?_ _)))) only [↓RD, RU, accW_t, accW_f, isW, ↓putF_get, ↓putF_none, ↓evF_t, ↓evF_c, ↓evF_f, new_nx, set_nx, new_get, set_get, getD_zero, getD_succ, u_not, pop, lop, aop, wop, resL, resV, tupleV, akV, isVal, isCell, Value.cells, List.map_cons, List.map_nil, Bool.not_true, Bool.not_false, Option.map_some, ↓reduceIte, Nat.reduceEqDiff, Nat.reduceAdd, Int.reduceOfNat, Int.reduceNegSucc, reduceCtorEq, List.getElem?_cons_zero, List.getElem?_cons_succ, List.length_cons, List.length_nil, srcR_c, src_n, src_v, src_s, bnd, lenV, capV, Option.isSome_none, Option.isNone_none, Option.isSome_some, Option.isNone_some, Bool.true_or, Bool.false_or, List.take_succ_cons, List.take_zero, List.drop_succ_cons, List.drop_zero, List.cons_append, List.nil_append, List.drop_nil, List.all_cons, List.all_nil, Bool.true_and, Kd.isRo, List.size_toArray, List.toList_toArray, bldV, Nat.reduceLeDiff, Int.reduceMul, Int.reduceAdd, Int.reduceSub, Int.reduceToNat, maxLen_eq, zeros_one, appS_some, appV_n, appV_v, appH_t, appH_f, Kd.isEx, Bool.false_and, partV, Nat.add_zero, Int.toNat_natCast]) | (with_reducible refine condK_dec (fun _ => ?_) (fun _ => ?_)) | (with_reducible refine grd_dec (fun _ => ?_) (fun _ => ?_)) | (with_reducible refine egrd_dec (fun _ => ?_) (fun _ => ?_)))
        all_goals rfl
      | false =>
        rw [hs] at hv
        simp only [Bool.false_eq_true, if_false] at hv
        subst hv
        have hnm : w / 4 ∉ l := fun hm => by
          rw [ha] at hm
          rw [hmem hm] at hs; cases hs
        have hE8 := hE6.trans hx8
        have hb8 := (hx8.ob _ (by omega)).trans hb6
        repeat' (first | (simp (disch := first | omega | (decide +kernel) | (repeat (first | assumption | exact HExt.refl _ | (refine HExt.set ?_ (by first | omega | (simp only [new_nx, set_nx]; omega)) _) | (refine HExt.new ?_ _)))) only [↓RD, RU, accW_t, accW_f, isW, ↓putF_get, ↓putF_none, ↓evF_t, ↓evF_c, ↓evF_f, new_nx, set_nx, new_get, set_get, getD_zero, getD_succ, u_not, pop, lop, aop, wop, resL, resV, tupleV, akV, isVal, isCell, Value.cells, List.map_cons, List.map_nil, Bool.not_true, Bool.not_false, Option.map_some, ↓reduceIte, Nat.reduceEqDiff, Nat.reduceAdd, Int.reduceOfNat, Int.reduceNegSucc, reduceCtorEq, List.getElem?_cons_zero, List.getElem?_cons_succ, List.length_cons, List.length_nil, srcR_c, src_n, src_v, src_s, bnd, lenV, capV, Option.isSome_none, Option.isNone_none, Option.isSome_some, Option.isNone_some, Bool.true_or, Bool.false_or, List.take_succ_cons, List.take_zero, List.drop_succ_cons, List.drop_zero, List.cons_append, List.nil_append, List.drop_nil, List.all_cons, List.all_nil, Bool.true_and, Kd.isRo, List.size_toArray, List.toList_toArray, bldV, Nat.reduceLeDiff, Int.reduceMul, Int.reduceAdd, Int.reduceSub, Int.reduceToNat, maxLen_eq, zeros_one, appS_some, appV_n, appV_v, appH_t, appH_f, Kd.isEx, Bool.false_and, partV, Nat.add_zero, Int.toNat_natCast, hag, hb8]) | (with_reducible refine condK_dec (fun _ => ?_) (fun _ => ?_)) | (with_reducible refine grd_dec (fun _ => ?_) (fun _ => ?_)) | (with_reducible refine egrd_dec (fun _ => ?_) (fun _ => ?_)))
        refine (good_wp (hw.good hE8) t w ht h3 (by omega) hsee).mono fun v K9 ⟨hv, hx9⟩ => ?_
        subst hv
        have hE9 := hE8.trans hx9
        have hn8 := hx8.nx
        have hb9 := (hx9.ob _ (by omega)).trans hb8
        repeat' (first | (simp (disch := first | omega | (decide +kernel) | (repeat (first | assumption | exact HExt.refl _ | (refine HExt.set ?_ (by first | omega | (simp only [new_nx, set_nx]; omega)) _) | (refine HExt.new ?_ _)))) only [↓RD, RU, accW_t, accW_f, isW, ↓putF_get, ↓putF_none, ↓evF_t, ↓evF_c, ↓evF_f, new_nx, set_nx, new_get, set_get, getD_zero, getD_succ, u_not, pop, lop, aop, wop, resL, resV, tupleV, akV, isVal, isCell, Value.cells, List.map_cons, List.map_nil, Bool.not_true, Bool.not_false, Option.map_some, ↓reduceIte, Nat.reduceEqDiff, Nat.reduceAdd, Int.reduceOfNat, Int.reduceNegSucc, reduceCtorEq, List.getElem?_cons_zero, List.getElem?_cons_succ, List.length_cons, List.length_nil, srcR_c, src_n, src_v, src_s, bnd, lenV, capV, Option.isSome_none, Option.isNone_none, Option.isSome_some, Option.isNone_some, Bool.true_or, Bool.false_or, List.take_succ_cons, List.take_zero, List.drop_succ_cons, List.drop_zero, List.cons_append, List.nil_append, List.drop_nil, List.all_cons, List.all_nil, Bool.true_and, Kd.isRo, List.size_toArray, List.toList_toArray, bldV, Nat.reduceLeDiff, Int.reduceMul, Int.reduceAdd, Int.reduceSub, Int.reduceToNat, maxLen_eq, zeros_one, appS_some, appV_n, appV_v, appH_t, appH_f, Kd.isEx, Bool.false_and, partV, Nat.add_zero, Int.toNat_natCast, hag, hb9]) | (with_reducible refine condK_dec (fun _ => ?_) (fun _ => ?_)) | (with_reducible refine grd_dec (fun _ => ?_) (fun _ => ?_)) | (with_reducible refine egrd_dec (fun _ => ?_) (fun _ => ?_)))
        refine (bad_right (hw.good (hE9.trans (by (repeat (first | assumption | exact HExt.refl _ | (refine HExt.set ?_ (by first | omega | (simp only [new_nx, set_nx]; omega)) _) | (refine HExt.new ?_ _)))))) t ht (by omega) hf (b := K9.nx) (kd := .ex) (w := w) (by repeat' (first | (simp (disch := first | omega | (decide +kernel) | (repeat (first | assumption | exact HExt.refl _ | (refine HExt.set ?_ (by first | omega | (simp only [new_nx, set_nx]; omega)) _) | (refine HExt.new ?_ _)))) only [↓RD, RU, accW_t, accW_f, isW, ↓putF_get, ↓putF_none, ↓evF_t, ↓evF_c, ↓evF_f, new_nx, set_nx, new_get, set_get, getD_zero, getD_succ, u_not, pop, lop, aop, wop, resL, resV, tupleV, akV, isVal, isCell, Value.cells, List.map_cons, List.map_nil, Bool.not_true, Bool.not_false, Option.map_some, ↓reduceIte, Nat.reduceEqDiff, Nat.reduceAdd, Int.reduceOfNat, Int.reduceNegSucc, reduceCtorEq, List.getElem?_cons_zero, List.getElem?_cons_succ, List.length_cons, List.length_nil, srcR_c, src_n, src_v, src_s, bnd, lenV, capV, Option.isSome_none, Option.isNone_none, Option.isSome_some, Option.isNone_some, Bool.true_or, Bool.false_or, List.take_succ_cons, List.take_zero, List.drop_succ_cons, List.drop_zero, List.cons_append, List.nil_append, List.drop_nil, List.all_cons, List.all_nil, Bool.true_and, Kd.isRo, List.size_toArray, List.toList_toArray, bldV, Nat.reduceLeDiff, Int.reduceMul, Int.reduceAdd, Int.reduceSub, Int.reduceToNat, maxLen_eq, zeros_one, appS_some, appV_n, appV_v, appH_t, appH_f, Kd.isEx, Bool.false_and, partV, Nat.add_zero, Int.toNat_natCast]) | (with_reducible refine condK_dec (fun _ => ?_) (fun _ => ?_)) | (with_reducible refine grd_dec (fun _ => ?_) (fun _ => ?_)) | (with_reducible refine egrd_dec (fun _ => ?_) (fun _ => ?_)))) (by first | omega | (simp only [new_nx, set_nx]; omega)) h3 hk hnm).mono fun v K10 ⟨hv, hx10⟩ => ?_
        subst hv
        repeat' (first | (simp (disch := first | omega | (decide +kernel) | (repeat (first | assumption | exact HExt.refl _ | (refine HExt.set ?_ (by first | omega | (simp only [new_nx, set_nx]; omega)) _) | (refine HExt.new ?_ _)))) only [↓RD, RU, accW_t, accW_f, isW, ↓putF_get, ↓putF_none, ↓evF_t, ↓evF_c, ↓evF_f, new_nx, set_nx, new_get, set_get, getD_zero, getD_succ, u_not, pop, lop, aop, wop, resL, resV, tupleV, akV, isVal, isCell, Value.cells, List.map_cons, List.map_nil, Bool.not_true, Bool.not_false, Option.map_some, ↓reduceIte, Nat.reduceEqDiff, Nat.reduceAdd, Int.reduceOfNat, Int.reduceNegSucc, reduceCtorEq, List.getElem?_cons_zero, List.getElem?_cons_succ, List.length_cons, List.length_nil, srcR_c, src_n, src_v, src_s, bnd, lenV, capV, Option.isSome_none, Option.isNone_none, Option.isSome_some, Option.isNone_some, Bool.true_or, Bool.false_or, List.take_succ_cons, List.take_zero, List.drop_succ_cons, List.drop_zero, List.cons_append, List.nil_append, List.drop_nil, List.all_cons, List.all_nil, Bool.true_and, Kd.isRo, List.size_toArray, List.toList_toArray, bldV, Nat.reduceLeDiff, Int.reduceMul, Int.reduceAdd, Int.reduceSub, Int.reduceToNat, maxLen_eq, zeros_one, appS_some, appV_n, appV_v, appH_t, appH_f, Kd.isEx, Bool.false_and, partV, Nat.add_zero, Int.toNat_natCast]) | (with_reducible refine condK_dec (fun _ => ?_) (fun _ => ?_)) | (with_reducible refine grd_dec (fun _ => ?_) (fun _ => ?_)) | (with_reducible refine egrd_dec (fun _ => ?_) (fun _ => ?_)))
        all_goals rfl
theorem fstayl_wp {H : CH} {p : Option Addr} {c : Nat} {ws : List Int} (hw : Words H p c ws) (hl : ws.length * 8 ≤ 140737488355328) (top w : Int) (ht : -9223372036854775808 ≤ top ∧ top ≤ 9223372036854775807) (h3 : 0 ≤ w ∧ w < 18446744073709551616) {q : Option Addr} {cl : Nat} {xs : List Int} (hx : SlAt 1 (CInt .u64) H q cl xs) (hll : xs.length ≤ 17592186043904) :
    WpF (tblG Try.prog LG GG) 4 [.agg #[.slice p ws.length c, .int .i64 top], .int .u64 w, .slice q xs.length cl] H fun v K => v = .bool true := by
  obtain ⟨lv, hlv, hW⟩ := wat_of hx
  rw [← hlv] at hll ⊢
  exact fstay_wp hw hl top w ht h3 hW hll
end Can
end Go.Proofs.Ytopnmlonapimjaa
