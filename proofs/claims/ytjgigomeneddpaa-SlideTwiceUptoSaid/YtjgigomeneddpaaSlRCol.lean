/- Slide: the reference's Collect. -/
import Derived.Test.YtjgigomeneddpaaSlColW
import Derived.Test.YtjgigomeneddpaaSlBfsW
namespace Go.Proofs.Ytjgigomeneddpaa
namespace Can
open Go Go.RowKit
set_option linter.unusedSimpArgs false
set_option linter.unusedVariables false
set_option maxRecDepth 4000
/-- A row of integers, as a function. -/
def fnI (n : Nat) (f : Nat → Int) : List Value := (List.range n).map fun i => Value.int .i64 (f i)
theorem fnI_len {n : Nat} {f : Nat → Int} : (fnI n f).length = n := by simp [fnI]
theorem fnI_get {n i : Nat} {f : Nat → Int} (h : i < n) : (fnI n f)[i]? = some (.int .i64 (f i)) := by simp [fnI, List.getElem?_range h]
theorem fnI_set {n i : Nat} {f : Nat → Int} {x : Int} (h : i < n) : setCells (fnI n f) i [.int .i64 x] = fnI n (upF f i x) := by
  have : setCells (fnI n f) i [.int .i64 x] = (fnI n f).set i (.int .i64 x) := by
    unfold setCells
    rw [List.set_eq_take_append_cons_drop, if_pos (by rw [fnI_len]; exact h)]
    simp
  rw [this]
  apply List.ext_getElem?
  intro j
  rw [List.getElem?_set]
  by_cases hj : j < n
  · rw [fnI_get hj, fnI_get hj, fnI_len]
    unfold upF
    by_cases e : i = j
    · subst e; simp [h]
    · rw [if_neg e, if_neg (fun e' => e e'.symm)]
  · rw [List.getElem?_eq_none (l := fnI n (upF f i x)) (by rw [fnI_len]; omega), List.getElem?_eq_none (l := fnI n f) (by rw [fnI_len]; omega), if_neg (by omega)]
theorem zeros_fnI (n : Nat) : zeros [.int .i64 0] n = fnI n fun _ => 0 := by
  unfold zeros fnI
  apply List.ext_getElem
  · simp
  · intro i h1 h2; simp [Nat.mod_one]
theorem zeros_fnW (n : Nat) : zeros [.int .u64 0] n = fnW n fun _ => 0 := by
  unfold zeros fnW
  apply List.ext_getElem
  · simp
  · intro i h1 h2; simp [Nat.mod_one]
theorem rc_nodup {ws roots : List Int} {tn : Nat} {ls : List Nat} (hF : Form ws tn ls) : (rcL ws roots ls).Nodup := by
  unfold rcL; exact hF.ch.nodup.filter _
/-- How far the first i survivors reach. -/
noncomputable def Qk (ws roots : List Int) (ls : List Nat) (i : Nat) : Nat := 1 + (((rcL ws roots ls).take i).map (szN ws)).sum
theorem Qk_nto {ws roots : List Int} {tn : Nat} {ls : List Nat} (hF : Form ws tn ls) {i a : Nat} (h : (rcL ws roots ls)[i]? = some a) : nto ws roots ls a = Qk ws roots ls i := by
  have ham := (mem_rc.1 (List.mem_of_getElem? h))
  have hk := at_idx ham.1
  have hkl := List.idxOf_lt_length_of_mem ham.1
  have hsp : rcL ws roots ls = rcL ws roots (ls.take (ls.idxOf a)) ++ a :: rcL ws roots (ls.drop (ls.idxOf a + 1)) := by
    have e : ls = ls.take (ls.idxOf a) ++ a :: ls.drop (ls.idxOf a + 1) := by
      have h1 := List.take_append_drop (ls.idxOf a) ls
      have h2 : ls.drop (ls.idxOf a) = a :: ls.drop (ls.idxOf a + 1) := by
        rw [List.drop_eq_getElem_cons hkl, List.getElem_idxOf hkl]
      rw [h2] at h1; exact h1.symm
    conv => lhs; rw [e]
    unfold rcL
    rw [List.filter_append, List.filter_cons]
    simp [ham.2]
  have hil : i = (rcL ws roots (ls.take (ls.idxOf a))).length := by
    have hn := rc_nodup (roots := roots) hF
    have h2 : (rcL ws roots ls)[(rcL ws roots (ls.take (ls.idxOf a))).length]? = some a := by
      rw [hsp, List.getElem?_append_right (Nat.le_refl _), Nat.sub_self]; rfl
    rw [← idx_at hn h, ← idx_at hn h2]
  unfold nto Pk Qk
  have : (rcL ws roots ls).take i = rcL ws roots (ls.take (ls.idxOf a)) := by
    rw [hil]
    conv => lhs; rw [hsp]
    rw [List.take_append_of_le_length (Nat.le_refl _), List.take_length]
  rw [this]
theorem Qk_succ {ws roots : List Int} {ls : List Nat} {i a : Nat} (h : (rcL ws roots ls)[i]? = some a) : Qk ws roots ls (i + 1) = Qk ws roots ls i + szN ws a := by
  obtain ⟨hi, rfl⟩ := List.getElem?_eq_some_iff.1 h
  unfold Qk
  rw [List.take_succ_eq_append_getElem hi, List.map_append, List.sum_append]
  simp only [List.map_cons, List.map_nil, List.sum_cons, List.sum_nil]; omega
theorem Qk_end {ws roots : List Int} {ls : List Nat} : Qk ws roots ls (rcL ws roots ls).length = Pk ws roots ls ls.length := by
  unfold Qk Pk
  rw [List.take_length, List.take_length]
theorem Qk_le {ws roots : List Int} {ls : List Nat} {i : Nat} (h : i ≤ (rcL ws roots ls).length) : Qk ws roots ls i ≤ Pk ws roots ls ls.length := by
  rw [← Qk_end]
  unfold Qk
  have h1 : (rcL ws roots ls).take (rcL ws roots ls).length = (rcL ws roots ls).take i ++ (rcL ws roots ls).drop i := by rw [List.take_length, List.take_append_drop]
  rw [h1, List.map_append, List.sum_append]; omega
/-- The memory as it is written. -/
noncomputable def cutF (ws roots : List Int) (ls : List Nat) (X i : Nat) : Int := if i < X then colF ws roots ls i else 0
theorem cutF_up {ws roots : List Int} {ls : List Nat} {X : Nat} : upF (cutF ws roots ls X) X (colF ws roots ls X) = cutF ws roots ls (X + 1) := by
  funext i
  unfold upF cutF
  by_cases h : i = X
  · subst h; rw [if_pos rfl, if_pos (by omega)]
  · rw [if_neg h]
    by_cases h2 : i < X
    · rw [if_pos h2, if_pos (by omega)]
    · rw [if_neg h2, if_neg (by omega)]
theorem cutF_one {ws roots : List Int} {ls : List Nat} : cutF ws roots ls 1 = fun _ => 0 := by
  funext i
  unfold cutF
  split
  · rename_i h
    have : i = 0 := by omega
    rw [this, colF_zero]
  · rfl
theorem cutF_end {ws roots : List Int} {ls : List Nat} : cutF ws roots ls (Pk ws roots ls ls.length) = colF ws roots ls := by
  funext i
  unfold cutF
  split
  · rfl
  · rw [colF_hi (by omega)]
/-- The reference's turned. -/
theorem rturned_wp {K : CH} {ws roots : List Int} {tn bt c : Nat} {ls : List Nat} {t : Nat → Int} {kd : Kd} {w : Int} (hF : Form ws tn ls) (ht : K.ob bt = .cells (fnI tn t) 3 kd) (hta : ∀ a ∈ ls, Rc ws roots a → t a = (nto ws roots ls a : Int)) (h0 : 0 ≤ w) (h1 : w < 18446744073709551616) (hr : kindF w = 0 → adr w ∈ ls ∧ Rc ws roots (adr w)) :
    WpF (tblG Try.prog LG GG) 39 [.int .u64 w, .slice (some ⟨bt, 0, none⟩) tn c] K fun v K' => v = .int .u64 (turnF ws roots ls w) ∧ K' = K := by
  refine wpF_rG (by rfl) (by kernel_rfl) ?_; (conv in (rF _ _).body => reduce); (conv in (rF _ _).res => reduce)
  by_cases hz : kindF w = 0
  · obtain ⟨hm, hrc⟩ := hr hz
    have hlt := hF.ch.mem _ hm
    have hnl := nto_lt (roots := roots) hF hm
    have heAt : eAt w = 0 := by unfold eAt; rw [if_pos hz]
    have hnAt : nAt w = (adr w : Int) := by unfold nAt adr; rw [if_pos hz]; omega
    have hg := fnI_get (n := tn) (f := t) (i := adr w) (by omega)
    rw [hta _ hm hrc] at hg
    have htF : turnF ws roots ls w = 4 * (nto ws roots ls (adr w) : Int) := by unfold turnF; rw [if_pos hz]
    rw [htF]
    repeat' (first | (simp (disch := first | omega | (decide +kernel) | (repeat (first | assumption | exact HExt.refl _ | (refine HExt.set ?_ (by first | omega | (simp only [new_nx, set_nx]; omega)) _) | (refine HExt.new ?_ _)))) only [↓RD, RU, accW_t, accW_f, isW, ↓putF_get, ↓putF_none, ↓evF_t, ↓evF_c, ↓evF_f, new_nx, set_nx, new_get, set_get, getD_zero, getD_succ, u_not, pop, lop, aop, wop, resL, resV, tupleV, akV, isVal, isCell, Value.cells, List.map_cons, List.map_nil, Bool.not_true, Bool.not_false, Option.map_some, ↓reduceIte, Nat.reduceEqDiff, Nat.reduceAdd, Int.reduceOfNat, Int.reduceNegSucc, reduceCtorEq, List.getElem?_cons_zero, List.getElem?_cons_succ, List.length_cons, List.length_nil, srcR_c, src_n, src_v, src_s, bnd, lenV, capV, Option.isSome_none, Option.isNone_none, Option.isSome_some, Option.isNone_some, Bool.true_or, Bool.false_or, List.take_succ_cons, List.take_zero, List.drop_succ_cons, List.drop_zero, List.cons_append, List.nil_append, List.drop_nil, List.all_cons, List.all_nil, Bool.true_and, Kd.isRo, List.size_toArray, List.toList_toArray, bldV, Nat.reduceLeDiff, Int.reduceMul, Int.reduceAdd, Int.reduceSub, Int.reduceToNat, maxLen_eq, zeros_one, appS_some, appV_n, appV_v, appH_t, appH_f, Kd.isEx, Bool.false_and, partV, Nat.add_zero, Int.toNat_natCast, rat_iff, heAt, hnAt, ht, hg]) | (with_reducible refine condK_dec (fun _ => ?_) (fun _ => ?_)) | (with_reducible refine grd_dec (fun _ => ?_) (fun _ => ?_)) | (with_reducible refine egrd_dec (fun _ => ?_) (fun _ => ?_)))
  · have heAt : eAt w = 9 := by unfold eAt; rw [if_neg hz]
    have htF : turnF ws roots ls w = w := by unfold turnF; rw [if_neg hz]
    rw [htF]
    repeat' (first | (simp (disch := first | omega | (decide +kernel) | (repeat (first | assumption | exact HExt.refl _ | (refine HExt.set ?_ (by first | omega | (simp only [new_nx, set_nx]; omega)) _) | (refine HExt.new ?_ _)))) only [↓RD, RU, accW_t, accW_f, isW, ↓putF_get, ↓putF_none, ↓evF_t, ↓evF_c, ↓evF_f, new_nx, set_nx, new_get, set_get, getD_zero, getD_succ, u_not, pop, lop, aop, wop, resL, resV, tupleV, akV, isVal, isCell, Value.cells, List.map_cons, List.map_nil, Bool.not_true, Bool.not_false, Option.map_some, ↓reduceIte, Nat.reduceEqDiff, Nat.reduceAdd, Int.reduceOfNat, Int.reduceNegSucc, reduceCtorEq, List.getElem?_cons_zero, List.getElem?_cons_succ, List.length_cons, List.length_nil, srcR_c, src_n, src_v, src_s, bnd, lenV, capV, Option.isSome_none, Option.isNone_none, Option.isSome_some, Option.isNone_some, Bool.true_or, Bool.false_or, List.take_succ_cons, List.take_zero, List.drop_succ_cons, List.drop_zero, List.cons_append, List.nil_append, List.drop_nil, List.all_cons, List.all_nil, Bool.true_and, Kd.isRo, List.size_toArray, List.toList_toArray, bldV, Nat.reduceLeDiff, Int.reduceMul, Int.reduceAdd, Int.reduceSub, Int.reduceToNat, maxLen_eq, zeros_one, appS_some, appV_n, appV_v, appH_t, appH_f, Kd.isEx, Bool.false_and, partV, Nat.add_zero, Int.toNat_natCast, rat_iff, heAt]) | (with_reducible refine condK_dec (fun _ => ?_) (fun _ => ?_)) | (with_reducible refine grd_dec (fun _ => ?_) (fun _ => ?_)) | (with_reducible refine egrd_dec (fun _ => ?_) (fun _ => ?_)))
/-- What lies at an object's address. -/
theorem rat_obj {K : CH} {p : Option Addr} {c : Nat} {ws : List Int} {tn : Nat} {ls : List Nat} (hw : Words K p c ws) (hF : Form ws tn ls) {a : Nat} (ha : a ∈ ls) :
    WpF (tblG Try.prog LG GG) 38 [.agg #[.slice p ws.length c, .int .i64 (tn : Int)], .int .i64 (a : Int)] K fun v K' => v = .tuple #[.agg #[.int .i64 (hdK (wd ws a)), .int .i64 (tgN ws a : Int), .int .i64 (szN ws a : Int)], .bool true] ∧ HExt K K' := by
  have hsz := isObj_sz (hF.ob a ha)
  have hpt := isObj_parts (hF.ob a ha)
  have hb := obj_lt2 hF ha
  have hlen := hF.len
  have htop := hF.top
  refine (rlook_wp hw tn a (by omega) (by omega) (by omega) (by omega) (by omega)).mono fun v K' ⟨hv, hx⟩ => ⟨?_, hx⟩
  rw [Int.toNat_natCast, if_pos (by unfold inA; exact decide_eq_true (by omega)), hpt.2.2.2.1] at hv
  have hok := okH_parts hpt.2.2.2.1
  have htg : hdT (wd ws a) = (tgN ws a : Int) := by unfold tgN; omega
  have hss : hdS (wd ws a) = (szN ws a : Int) := by unfold szN; omega
  rw [hv, htg, hss]
theorem intsN_at {R : List Nat} {i a : Nat} (h : R[i]? = some a) : (intsN R).getD i 0 = (a : Int) := by
  unfold intsN
  rw [List.getD_eq_getElem?_getD, List.getElem?_map, h]; rfl
set_option maxHeartbeats 1000000 in
theorem rcollect_wp {H : CH} {p q : Option Addr} {c d : Nat} {ws roots : List Int} {tn : Nat} {ls : List Nat} (hw : Words H p c ws) (hF : Form ws tn ls) (hr : RtOk ls roots) (hrs : SlAt 1 (CInt .u64) H q d roots) (hrl : roots.length ≤ 17592186043904) :
    WpF (tblG Try.prog LG GG) 14 [.agg #[.slice p ws.length c, .int .i64 (tn : Int)], .slice q roots.length d] H fun v K => HExt H K ∧ ∃ b u, v = .tuple #[.agg #[.slice (some ⟨b, 0, none⟩) ws.length ws.length, .int .i64 (Pk ws roots ls ls.length : Int)], u] ∧ b < K.nx ∧ K.ob b = .cells (fnW ws.length (colF ws roots ls)) 50 .ex ∧ Grw H 50 1 (ints .u64) K u (roots.map (turnF ws roots ls)) := by
  have hu := sl_u64 hw.1
  have hlen := hF.len
  have htop := hF.top
  obtain ⟨R, hR⟩ : ∃ R, rcL ws roots ls = R := ⟨_, rfl⟩
  have hRl : R.length ≤ ls.length := by rw [← hR]; exact rcL_len
  have hcl := hF.ch.len
  refine wpF_rG (by rfl) (by kernel_rfl) ?_; (conv in (rF _ _).body => reduce); (conv in (rF _ _).res => reduce)
  repeat' (first | (simp (disch := first | omega | (decide +kernel) | (repeat (first | assumption | exact HExt.refl _ | (refine HExt.set ?_ (by first | omega | (simp only [new_nx, set_nx]; omega)) _) | (refine HExt.new ?_ _)))) only [↓RD, RU, accW_t, accW_f, isW, ↓putF_get, ↓putF_none, ↓evF_t, ↓evF_c, ↓evF_f, new_nx, set_nx, new_get, set_get, getD_zero, getD_succ, u_not, pop, lop, aop, wop, resL, resV, tupleV, akV, isVal, isCell, Value.cells, List.map_cons, List.map_nil, Bool.not_true, Bool.not_false, Option.map_some, ↓reduceIte, Nat.reduceEqDiff, Nat.reduceAdd, Int.reduceOfNat, Int.reduceNegSucc, reduceCtorEq, List.getElem?_cons_zero, List.getElem?_cons_succ, List.length_cons, List.length_nil, srcR_c, src_n, src_v, src_s, bnd, lenV, capV, Option.isSome_none, Option.isNone_none, Option.isSome_some, Option.isNone_some, Bool.true_or, Bool.false_or, List.take_succ_cons, List.take_zero, List.drop_succ_cons, List.drop_zero, List.cons_append, List.nil_append, List.drop_nil, List.all_cons, List.all_nil, Bool.true_and, Kd.isRo, List.size_toArray, List.toList_toArray, bldV, Nat.reduceLeDiff, Int.reduceMul, Int.reduceAdd, Int.reduceSub, Int.reduceToNat, maxLen_eq, zeros_one, appS_some, appV_n, appV_v, appH_t, appH_f, Kd.isEx, Bool.false_and, partV, Nat.add_zero, Int.toNat_natCast]) | (with_reducible refine condK_dec (fun _ => ?_) (fun _ => ?_)) | (with_reducible refine grd_dec (fun _ => ?_) (fun _ => ?_)) | (with_reducible refine egrd_dec (fun _ => ?_) (fun _ => ?_)))
  have hE0 : HExt H ((H.new (.cells [.slice p ws.length c, .int .i64 (tn : Int)] 24 .ex)).new (.cells [.slice none 0 0, .int .i64 0] 24 .ex)) := by (repeat (first | assumption | exact HExt.refl _ | (refine HExt.set ?_ (by first | omega | (simp only [new_nx, set_nx]; omega)) _) | (refine HExt.new ?_ _)))
  refine (rreach_wp (hw.good hE0) hF hr (hrs.good (CInt.good _) hE0) hrl).mono fun u K1 ⟨hx1, hG⟩ => ?_
  have hn1 : H.nx + 2 ≤ K1.nx := hx1.nx
  have hE1 := hE0.trans hx1
  have hb1 : K1.ob H.nx = .cells [.slice p ws.length c, .int .i64 (tn : Int)] 24 .ex := (hx1.ob _ (by show H.nx < H.nx + 2; omega)).trans (by repeat' (first | (simp (disch := first | omega | (decide +kernel) | (repeat (first | assumption | exact HExt.refl _ | (refine HExt.set ?_ (by first | omega | (simp only [new_nx, set_nx]; omega)) _) | (refine HExt.new ?_ _)))) only [↓RD, RU, accW_t, accW_f, isW, ↓putF_get, ↓putF_none, ↓evF_t, ↓evF_c, ↓evF_f, new_nx, set_nx, new_get, set_get, getD_zero, getD_succ, u_not, pop, lop, aop, wop, resL, resV, tupleV, akV, isVal, isCell, Value.cells, List.map_cons, List.map_nil, Bool.not_true, Bool.not_false, Option.map_some, ↓reduceIte, Nat.reduceEqDiff, Nat.reduceAdd, Int.reduceOfNat, Int.reduceNegSucc, reduceCtorEq, List.getElem?_cons_zero, List.getElem?_cons_succ, List.length_cons, List.length_nil, srcR_c, src_n, src_v, src_s, bnd, lenV, capV, Option.isSome_none, Option.isNone_none, Option.isSome_some, Option.isNone_some, Bool.true_or, Bool.false_or, List.take_succ_cons, List.take_zero, List.drop_succ_cons, List.drop_zero, List.cons_append, List.nil_append, List.drop_nil, List.all_cons, List.all_nil, Bool.true_and, Kd.isRo, List.size_toArray, List.toList_toArray, bldV, Nat.reduceLeDiff, Int.reduceMul, Int.reduceAdd, Int.reduceSub, Int.reduceToNat, maxLen_eq, zeros_one, appS_some, appV_n, appV_v, appH_t, appH_f, Kd.isEx, Bool.false_and, partV, Nat.add_zero, Int.toNat_natCast]) | (with_reducible refine condK_dec (fun _ => ?_) (fun _ => ?_)) | (with_reducible refine grd_dec (fun _ => ?_) (fun _ => ?_)) | (with_reducible refine egrd_dec (fun _ => ?_) (fun _ => ?_))))
  have hr1 : K1.ob (H.nx + 1) = .cells [.slice none 0 0, .int .i64 0] 24 .ex := (hx1.ob _ (by show H.nx + 1 < H.nx + 2; omega)).trans (by repeat' (first | (simp (disch := first | omega | (decide +kernel) | (repeat (first | assumption | exact HExt.refl _ | (refine HExt.set ?_ (by first | omega | (simp only [new_nx, set_nx]; omega)) _) | (refine HExt.new ?_ _)))) only [↓RD, RU, accW_t, accW_f, isW, ↓putF_get, ↓putF_none, ↓evF_t, ↓evF_c, ↓evF_f, new_nx, set_nx, new_get, set_get, getD_zero, getD_succ, u_not, pop, lop, aop, wop, resL, resV, tupleV, akV, isVal, isCell, Value.cells, List.map_cons, List.map_nil, Bool.not_true, Bool.not_false, Option.map_some, ↓reduceIte, Nat.reduceEqDiff, Nat.reduceAdd, Int.reduceOfNat, Int.reduceNegSucc, reduceCtorEq, List.getElem?_cons_zero, List.getElem?_cons_succ, List.length_cons, List.length_nil, srcR_c, src_n, src_v, src_s, bnd, lenV, capV, Option.isSome_none, Option.isNone_none, Option.isSome_some, Option.isNone_some, Bool.true_or, Bool.false_or, List.take_succ_cons, List.take_zero, List.drop_succ_cons, List.drop_zero, List.cons_append, List.nil_append, List.drop_nil, List.all_cons, List.all_nil, Bool.true_and, Kd.isRo, List.size_toArray, List.toList_toArray, bldV, Nat.reduceLeDiff, Int.reduceMul, Int.reduceAdd, Int.reduceSub, Int.reduceToNat, maxLen_eq, zeros_one, appS_some, appV_n, appV_v, appH_t, appH_f, Kd.isEx, Bool.false_and, partV, Nat.add_zero, Int.toNat_natCast]) | (with_reducible refine condK_dec (fun _ => ?_) (fun _ => ?_)) | (with_reducible refine grd_dec (fun _ => ?_) (fun _ => ?_)) | (with_reducible refine egrd_dec (fun _ => ?_) (fun _ => ?_))))
  rw [hR] at hG
  have hRn : (intsN R).length = R.length := by simp [intsN]
  obtain ⟨qu, cu, rfl, su⟩ := hG.sl (by omega) (by rw [← hR]; exact rcL_wf hF)
  rw [hRn]
  have hzw := zeros_fnW ws.length
  have hzi := zeros_fnI tn
  repeat' (first | (simp (disch := first | omega | (decide +kernel) | (repeat (first | assumption | exact HExt.refl _ | (refine HExt.set ?_ (by first | omega | (simp only [new_nx, set_nx]; omega)) _) | (refine HExt.new ?_ _)))) only [↓RD, RU, accW_t, accW_f, isW, ↓putF_get, ↓putF_none, ↓evF_t, ↓evF_c, ↓evF_f, new_nx, set_nx, new_get, set_get, getD_zero, getD_succ, u_not, pop, lop, aop, wop, resL, resV, tupleV, akV, isVal, isCell, Value.cells, List.map_cons, List.map_nil, Bool.not_true, Bool.not_false, Option.map_some, ↓reduceIte, Nat.reduceEqDiff, Nat.reduceAdd, Int.reduceOfNat, Int.reduceNegSucc, reduceCtorEq, List.getElem?_cons_zero, List.getElem?_cons_succ, List.length_cons, List.length_nil, srcR_c, src_n, src_v, src_s, bnd, lenV, capV, Option.isSome_none, Option.isNone_none, Option.isSome_some, Option.isNone_some, Bool.true_or, Bool.false_or, List.take_succ_cons, List.take_zero, List.drop_succ_cons, List.drop_zero, List.cons_append, List.nil_append, List.drop_nil, List.all_cons, List.all_nil, Bool.true_and, Kd.isRo, List.size_toArray, List.toList_toArray, bldV, Nat.reduceLeDiff, Int.reduceMul, Int.reduceAdd, Int.reduceSub, Int.reduceToNat, maxLen_eq, zeros_one, appS_some, appV_n, appV_v, appH_t, appH_f, Kd.isEx, Bool.false_and, partV, Nat.add_zero, Int.toNat_natCast, hb1, hzw, hzi]) | (with_reducible refine condK_dec (fun _ => ?_) (fun _ => ?_)) | (with_reducible refine grd_dec (fun _ => ?_) (fun _ => ?_)) | (with_reducible refine egrd_dec (fun _ => ?_) (fun _ => ?_)))
  obtain ⟨K2, hK2⟩ : ∃ K2, K2 = ((((K1.new (.cells (fnW ws.length fun _ => 0) 50 .ex)).new (.cells [.slice none 0 0, .int .i64 0] 24 .ex)).set (K1.nx + 1) (.cells [.slice (some ⟨K1.nx, 0, none⟩) ws.length ws.length, .int .i64 1] 24 .ex)).new (.cells (fnI tn fun _ => 0) 3 .ex)) := ⟨_, rfl⟩
  have hn2 : K2.nx = K1.nx + 3 := by rw [hK2]; rfl
  have hold2 : ∀ x, x < K1.nx → K2.ob x = K1.ob x := fun x hx => by rw [hK2, new_get, if_neg (by first | omega | (simp only [new_nx, set_nx]; omega)), set_get, if_neg (by omega), new_get, if_neg (by first | omega | (simp only [new_nx, set_nx]; omega)), new_get, if_neg (by omega)]
  have w2 : K2.ob K1.nx = .cells (fnW ws.length fun _ => 0) 50 .ex := by rw [hK2, new_get, if_neg (by first | omega | (simp only [new_nx, set_nx]; omega)), set_get, if_neg (by omega), new_get, if_neg (by first | omega | (simp only [new_nx, set_nx]; omega))]; exact new_get.trans (if_pos rfl)
  have m2 : K2.ob (K1.nx + 1) = .cells [.slice (some ⟨K1.nx, 0, none⟩) ws.length ws.length, .int .i64 1] 24 .ex := by rw [hK2, new_get, if_neg (by first | omega | (simp only [new_nx, set_nx]; omega))]; exact set_get.trans (if_pos rfl)
  have t2 : K2.ob (K1.nx + 2) = .cells (fnI tn fun _ => 0) 3 .ex := by rw [hK2]; exact new_get.trans (if_pos rfl)
  have hE2 : HExt K1 K2 := ⟨by omega, hold2⟩
  rw [← hK2]
  have hPl := Pk_lt (roots := roots) hF (Nat.le_refl ls.length)
  have hPt := Pk_top (roots := roots) hF
  have hQ0 : Qk ws roots ls 0 = 1 := rfl
  refine loop_w (fun m fr K => ∃ (i : Nat) (t : Nat → Int), m = R.length - i ∧ i ≤ R.length ∧ fr 9 = .int .i64 (i : Int) ∧ K1.nx + 3 ≤ K.nx ∧ (∀ x, x < K1.nx + 1 → K.ob x = K2.ob x) ∧ K.ob (K1.nx + 1) = .cells [.slice (some ⟨K1.nx, 0, none⟩) ws.length ws.length, .int .i64 (Qk ws roots ls i : Int)] 24 .ex ∧ K.ob (K1.nx + 2) = .cells (fnI tn t) 3 .ex ∧ ∀ a ∈ R.take i, t a = (nto ws roots ls a : Int)) (n := R.length)
    ⟨0, fun _ => 0, rfl, Nat.zero_le _, by (repeat' (first | (simp (disch := first | omega | (decide +kernel) | (repeat (first | assumption | exact HExt.refl _ | (refine HExt.set ?_ (by first | omega | (simp only [new_nx, set_nx]; omega)) _) | (refine HExt.new ?_ _)))) only [↓RD, RU, accW_t, accW_f, isW, ↓putF_get, ↓putF_none, ↓evF_t, ↓evF_c, ↓evF_f, new_nx, set_nx, new_get, set_get, getD_zero, getD_succ, u_not, pop, lop, aop, wop, resL, resV, tupleV, akV, isVal, isCell, Value.cells, List.map_cons, List.map_nil, Bool.not_true, Bool.not_false, Option.map_some, ↓reduceIte, Nat.reduceEqDiff, Nat.reduceAdd, Int.reduceOfNat, Int.reduceNegSucc, reduceCtorEq, List.getElem?_cons_zero, List.getElem?_cons_succ, List.length_cons, List.length_nil, srcR_c, src_n, src_v, src_s, bnd, lenV, capV, Option.isSome_none, Option.isNone_none, Option.isSome_some, Option.isNone_some, Bool.true_or, Bool.false_or, List.take_succ_cons, List.take_zero, List.drop_succ_cons, List.drop_zero, List.cons_append, List.nil_append, List.drop_nil, List.all_cons, List.all_nil, Bool.true_and, Kd.isRo, List.size_toArray, List.toList_toArray, bldV, Nat.reduceLeDiff, Int.reduceMul, Int.reduceAdd, Int.reduceSub, Int.reduceToNat, maxLen_eq, zeros_one, appS_some, appV_n, appV_v, appH_t, appH_f, Kd.isEx, Bool.false_and, partV, Nat.add_zero, Int.toNat_natCast]) | (with_reducible refine condK_dec (fun _ => ?_) (fun _ => ?_)) | (with_reducible refine grd_dec (fun _ => ?_) (fun _ => ?_)) | (with_reducible refine egrd_dec (fun _ => ?_) (fun _ => ?_)))); all_goals rfl, by omega, fun _ _ => rfl, by rw [hQ0]; exact m2, t2, fun a ha => by cases ha⟩ ?_
  rintro m fr K ⟨i, t, rfl, hi, f9, hnK, hoK, hmK, htK, hta⟩ hag
  have hEK : HExt K1 K := ⟨by omega, fun x hx => (hoK x (by omega)).trans (hold2 x hx)⟩
  have hbK := (hEK.ob H.nx (by omega)).trans hb1
  have suK := su.good (CInt.good _) hEK
  by_cases hil : i < R.length
  case pos =>
    obtain ⟨l, o, os, e, kd, rfl, hl1, hc, hm, hob, hol, hos, hwf⟩ := suK.ints (by rw [hRn]; omega)
    obtain ⟨a, ha⟩ : ∃ a, R[i]? = some a := ⟨_, List.getElem?_eq_getElem hil⟩
    have hgi := hos i (by rw [hRn]; exact hil)
    rw [intsN_at ha] at hgi
    have hma := mem_rc.1 (show a ∈ rcL ws roots ls by rw [hR]; exact List.mem_of_getElem? ha)
    have hlt := hF.ch.mem a hma.1
    have hQn := Qk_nto (roots := roots) hF (i := i) (a := a) (by rw [hR]; exact ha)
    have hQs := Qk_succ (ws := ws) (roots := roots) (ls := ls) (i := i) (a := a) (by rw [hR]; exact ha)
    have hQl := Qk_le (ws := ws) (roots := roots) (ls := ls) (i := i + 1) (by rw [hR]; omega)
    repeat' (first | (simp (disch := first | omega | (decide +kernel) | (repeat (first | assumption | exact HExt.refl _ | (refine HExt.set ?_ (by first | omega | (simp only [new_nx, set_nx]; omega)) _) | (refine HExt.new ?_ _)))) only [↓RD, RU, accW_t, accW_f, isW, ↓putF_get, ↓putF_none, ↓evF_t, ↓evF_c, ↓evF_f, new_nx, set_nx, new_get, set_get, getD_zero, getD_succ, u_not, pop, lop, aop, wop, resL, resV, tupleV, akV, isVal, isCell, Value.cells, List.map_cons, List.map_nil, Bool.not_true, Bool.not_false, Option.map_some, ↓reduceIte, Nat.reduceEqDiff, Nat.reduceAdd, Int.reduceOfNat, Int.reduceNegSucc, reduceCtorEq, List.getElem?_cons_zero, List.getElem?_cons_succ, List.length_cons, List.length_nil, srcR_c, src_n, src_v, src_s, bnd, lenV, capV, Option.isSome_none, Option.isNone_none, Option.isSome_some, Option.isNone_some, Bool.true_or, Bool.false_or, List.take_succ_cons, List.take_zero, List.drop_succ_cons, List.drop_zero, List.cons_append, List.nil_append, List.drop_nil, List.all_cons, List.all_nil, Bool.true_and, Kd.isRo, List.size_toArray, List.toList_toArray, bldV, Nat.reduceLeDiff, Int.reduceMul, Int.reduceAdd, Int.reduceSub, Int.reduceToNat, maxLen_eq, zeros_one, appS_some, appV_n, appV_v, appH_t, appH_f, Kd.isEx, Bool.false_and, partV, Nat.add_zero, Int.toNat_natCast, f9, hag, hbK, hob, hgi]) | (with_reducible refine condK_dec (fun _ => ?_) (fun _ => ?_)) | (with_reducible refine grd_dec (fun _ => ?_) (fun _ => ?_)) | (with_reducible refine egrd_dec (fun _ => ?_) (fun _ => ?_)))
    refine (rat_obj (hw.good (hE1.trans hEK)) hF hma.1).mono fun v K3 ⟨hv, hx3⟩ => ?_
    subst hv
    have hn3 := hx3.nx
    have hob3 := (hx3.ob l (by omega)).trans hob
    have hm3 := (hx3.ob (K1.nx + 1) (by omega)).trans hmK
    have ht3 := (hx3.ob (K1.nx + 2) (by omega)).trans htK
    have hs1 := fnI_set (n := tn) (f := t) (i := a) (x := (Qk ws roots ls i : Int)) (by omega)
    repeat' (first | (simp (disch := first | omega | (decide +kernel) | (repeat (first | assumption | exact HExt.refl _ | (refine HExt.set ?_ (by first | omega | (simp only [new_nx, set_nx]; omega)) _) | (refine HExt.new ?_ _)))) only [↓RD, RU, accW_t, accW_f, isW, ↓putF_get, ↓putF_none, ↓evF_t, ↓evF_c, ↓evF_f, new_nx, set_nx, new_get, set_get, getD_zero, getD_succ, u_not, pop, lop, aop, wop, resL, resV, tupleV, akV, isVal, isCell, Value.cells, List.map_cons, List.map_nil, Bool.not_true, Bool.not_false, Option.map_some, ↓reduceIte, Nat.reduceEqDiff, Nat.reduceAdd, Int.reduceOfNat, Int.reduceNegSucc, reduceCtorEq, List.getElem?_cons_zero, List.getElem?_cons_succ, List.length_cons, List.length_nil, srcR_c, src_n, src_v, src_s, bnd, lenV, capV, Option.isSome_none, Option.isNone_none, Option.isSome_some, Option.isNone_some, Bool.true_or, Bool.false_or, List.take_succ_cons, List.take_zero, List.drop_succ_cons, List.drop_zero, List.cons_append, List.nil_append, List.drop_nil, List.all_cons, List.all_nil, Bool.true_and, Kd.isRo, List.size_toArray, List.toList_toArray, bldV, Nat.reduceLeDiff, Int.reduceMul, Int.reduceAdd, Int.reduceSub, Int.reduceToNat, maxLen_eq, zeros_one, appS_some, appV_n, appV_v, appH_t, appH_f, Kd.isEx, Bool.false_and, partV, Nat.add_zero, Int.toNat_natCast, f9, hag, hbK, hob3, hgi, hm3, ht3, ↓hs1, fnI_len]) | (with_reducible refine condK_dec (fun _ => ?_) (fun _ => ?_)) | (with_reducible refine grd_dec (fun _ => ?_) (fun _ => ?_)) | (with_reducible refine egrd_dec (fun _ => ?_) (fun _ => ?_)))
    refine ⟨_, by omega, i + 1, _, rfl, hil, rfl, by omega, fun x hx => ?_, ?_, rfl, fun y hy => ?_⟩
    · first | (rw [if_neg (by omega), if_neg (by omega), if_neg (by omega), hx3.ob x (by omega)]; exact hoK x hx) | (rw [if_neg (by omega), if_neg (by omega), if_neg (by omega), if_neg (by omega), hx3.ob x (by omega)]; exact hoK x hx)
    · rw [hQs, Int.natCast_add]
    · obtain ⟨hi', e1⟩ := List.getElem?_eq_some_iff.1 ha
      rw [List.take_succ_eq_append_getElem hi', e1] at hy
      unfold upF
      rcases List.mem_append.1 hy with hy | hy
      · have hne : y ≠ a := fun e => by
          have hnd := rc_nodup (roots := roots) hF
          rw [hR] at hnd
          obtain ⟨j, hj, e2⟩ := List.getElem_of_mem hy
          rw [List.getElem_take] at e2
          have := List.pairwise_iff_getElem.1 hnd j i (by simp at hj; omega) hil (by simp at hj; omega)
          exact this (by rw [e2, e1, e])
        rw [if_neg hne]; exact hta y hy
      · simp at hy
        rw [if_pos hy, hy, hQn]
  case neg =>
  have hie : i = R.length := by omega
  subst hie
  rw [List.take_length] at hta
  repeat' (first | (simp (disch := first | omega | (decide +kernel) | (repeat (first | assumption | exact HExt.refl _ | (refine HExt.set ?_ (by first | omega | (simp only [new_nx, set_nx]; omega)) _) | (refine HExt.new ?_ _)))) only [↓RD, RU, accW_t, accW_f, isW, ↓putF_get, ↓putF_none, ↓evF_t, ↓evF_c, ↓evF_f, new_nx, set_nx, new_get, set_get, getD_zero, getD_succ, u_not, pop, lop, aop, wop, resL, resV, tupleV, akV, isVal, isCell, Value.cells, List.map_cons, List.map_nil, Bool.not_true, Bool.not_false, Option.map_some, ↓reduceIte, Nat.reduceEqDiff, Nat.reduceAdd, Int.reduceOfNat, Int.reduceNegSucc, reduceCtorEq, List.getElem?_cons_zero, List.getElem?_cons_succ, List.length_cons, List.length_nil, srcR_c, src_n, src_v, src_s, bnd, lenV, capV, Option.isSome_none, Option.isNone_none, Option.isSome_some, Option.isNone_some, Bool.true_or, Bool.false_or, List.take_succ_cons, List.take_zero, List.drop_succ_cons, List.drop_zero, List.cons_append, List.nil_append, List.drop_nil, List.all_cons, List.all_nil, Bool.true_and, Kd.isRo, List.size_toArray, List.toList_toArray, bldV, Nat.reduceLeDiff, Int.reduceMul, Int.reduceAdd, Int.reduceSub, Int.reduceToNat, maxLen_eq, zeros_one, appS_some, appV_n, appV_v, appH_t, appH_f, Kd.isEx, Bool.false_and, partV, Nat.add_zero, Int.toNat_natCast, f9, hag]) | (with_reducible refine condK_dec (fun _ => ?_) (fun _ => ?_)) | (with_reducible refine grd_dec (fun _ => ?_) (fun _ => ?_)) | (with_reducible refine egrd_dec (fun _ => ?_) (fun _ => ?_)))
  have htF : ∀ a ∈ ls, Rc ws roots a → t a = (nto ws roots ls a : Int) := fun a ha hra => hta a (by rw [← hR]; exact mem_rc.2 ⟨ha, hra⟩)
  have hQe : Qk ws roots ls R.length = Pk ws roots ls ls.length := by rw [← hR]; exact Qk_end
  rw [hQe] at hmK
  have hwK : K.ob K1.nx = .cells (fnW ws.length (cutF ws roots ls (Qk ws roots ls 0))) 50 .ex := by rw [hoK _ (by omega), w2, hQ0, cutF_one]
  obtain ⟨l, o, os, e, kd, rfl, hl1, hc, hm, hob, hol, hos, hwf⟩ := hw.1.ints (by omega)
  refine loop_w (fun m fr K' => ∃ i : Nat, m = R.length - i ∧ i ≤ R.length ∧ fr 12 = .int .i64 (i : Int) ∧ K.nx ≤ K'.nx ∧ (∀ x, x < K.nx → x ≠ K1.nx → K'.ob x = K.ob x) ∧ K'.ob K1.nx = .cells (fnW ws.length (cutF ws roots ls (Qk ws roots ls i))) 50 .ex) (n := R.length) ⟨0, rfl, Nat.zero_le _, by (repeat' (first | (simp (disch := first | omega | (decide +kernel) | (repeat (first | assumption | exact HExt.refl _ | (refine HExt.set ?_ (by first | omega | (simp only [new_nx, set_nx]; omega)) _) | (refine HExt.new ?_ _)))) only [↓RD, RU, accW_t, accW_f, isW, ↓putF_get, ↓putF_none, ↓evF_t, ↓evF_c, ↓evF_f, new_nx, set_nx, new_get, set_get, getD_zero, getD_succ, u_not, pop, lop, aop, wop, resL, resV, tupleV, akV, isVal, isCell, Value.cells, List.map_cons, List.map_nil, Bool.not_true, Bool.not_false, Option.map_some, ↓reduceIte, Nat.reduceEqDiff, Nat.reduceAdd, Int.reduceOfNat, Int.reduceNegSucc, reduceCtorEq, List.getElem?_cons_zero, List.getElem?_cons_succ, List.length_cons, List.length_nil, srcR_c, src_n, src_v, src_s, bnd, lenV, capV, Option.isSome_none, Option.isNone_none, Option.isSome_some, Option.isNone_some, Bool.true_or, Bool.false_or, List.take_succ_cons, List.take_zero, List.drop_succ_cons, List.drop_zero, List.cons_append, List.nil_append, List.drop_nil, List.all_cons, List.all_nil, Bool.true_and, Kd.isRo, List.size_toArray, List.toList_toArray, bldV, Nat.reduceLeDiff, Int.reduceMul, Int.reduceAdd, Int.reduceSub, Int.reduceToNat, maxLen_eq, zeros_one, appS_some, appV_n, appV_v, appH_t, appH_f, Kd.isEx, Bool.false_and, partV, Nat.add_zero, Int.toNat_natCast]) | (with_reducible refine condK_dec (fun _ => ?_) (fun _ => ?_)) | (with_reducible refine grd_dec (fun _ => ?_) (fun _ => ?_)) | (with_reducible refine egrd_dec (fun _ => ?_) (fun _ => ?_)))); all_goals rfl, Nat.le_refl _, fun _ _ _ => rfl, hwK⟩ ?_
  rintro m fr2 K' ⟨i, rfl, hi, f12, hnK', hoK', hwK'⟩ hag2
  have hEK' : HExt K1 K' := ⟨by omega, fun x hx => (hoK' x (by omega) (by omega)).trans (hEK.ob x hx)⟩
  have hbK' := (hEK'.ob H.nx (by omega)).trans hb1
  have hmK' := (hoK' (K1.nx + 1) (by omega) (by omega)).trans hmK
  have htK' := (hoK' (K1.nx + 2) (by omega) (by omega)).trans htK
  by_cases hil : i < R.length
  case pos =>
    obtain ⟨lu, ou, osu, eu, kdu, rfl, hlu, hcu, hmu, hobu, holu, hosu, hwfu⟩ := (su.good (CInt.good _) hEK').ints (by rw [hRn]; omega)
    obtain ⟨a, ha⟩ : ∃ a, R[i]? = some a := ⟨_, List.getElem?_eq_getElem hil⟩
    have hgi := hosu i (by rw [hRn]; exact hil)
    rw [intsN_at ha] at hgi
    have hma := mem_rc.1 (show a ∈ rcL ws roots ls by rw [hR]; exact List.mem_of_getElem? ha)
    have hlt := hF.ch.mem a hma.1
    have hsz := isObj_sz (hF.ob a hma.1)
    have hQn := Qk_nto (roots := roots) hF (i := i) (a := a) (by rw [hR]; exact ha)
    have hQs := Qk_succ (ws := ws) (roots := roots) (ls := ls) (i := i) (a := a) (by rw [hR]; exact ha)
    have hQl := Qk_le (ws := ws) (roots := roots) (ls := ls) (i := i + 1) (by rw [hR]; omega)
    repeat' (first | (simp (disch := first | omega | (decide +kernel) | (repeat (first | assumption | exact HExt.refl _ | (refine HExt.set ?_ (by first | omega | (simp only [new_nx, set_nx]; omega)) _) | (refine HExt.new ?_ _)))) only [↓RD, RU, accW_t, accW_f, isW, ↓putF_get, ↓putF_none, ↓evF_t, ↓evF_c, ↓evF_f, new_nx, set_nx, new_get, set_get, getD_zero, getD_succ, u_not, pop, lop, aop, wop, resL, resV, tupleV, akV, isVal, isCell, Value.cells, List.map_cons, List.map_nil, Bool.not_true, Bool.not_false, Option.map_some, ↓reduceIte, Nat.reduceEqDiff, Nat.reduceAdd, Int.reduceOfNat, Int.reduceNegSucc, reduceCtorEq, List.getElem?_cons_zero, List.getElem?_cons_succ, List.length_cons, List.length_nil, srcR_c, src_n, src_v, src_s, bnd, lenV, capV, Option.isSome_none, Option.isNone_none, Option.isSome_some, Option.isNone_some, Bool.true_or, Bool.false_or, List.take_succ_cons, List.take_zero, List.drop_succ_cons, List.drop_zero, List.cons_append, List.nil_append, List.drop_nil, List.all_cons, List.all_nil, Bool.true_and, Kd.isRo, List.size_toArray, List.toList_toArray, bldV, Nat.reduceLeDiff, Int.reduceMul, Int.reduceAdd, Int.reduceSub, Int.reduceToNat, maxLen_eq, zeros_one, appS_some, appV_n, appV_v, appH_t, appH_f, Kd.isEx, Bool.false_and, partV, Nat.add_zero, Int.toNat_natCast, f12, hag2, hag, hbK', hobu, hgi]) | (with_reducible refine condK_dec (fun _ => ?_) (fun _ => ?_)) | (with_reducible refine grd_dec (fun _ => ?_) (fun _ => ?_)) | (with_reducible refine egrd_dec (fun _ => ?_) (fun _ => ?_)))
    refine (rat_obj (hw.good (hE1.trans hEK')) hF hma.1).mono fun v K3 ⟨hv, hx3⟩ => ?_
    subst hv
    have hn3 := hx3.nx
    repeat' (first | (simp (disch := first | omega | (decide +kernel) | (repeat (first | assumption | exact HExt.refl _ | (refine HExt.set ?_ (by first | omega | (simp only [new_nx, set_nx]; omega)) _) | (refine HExt.new ?_ _)))) only [↓RD, RU, accW_t, accW_f, isW, ↓putF_get, ↓putF_none, ↓evF_t, ↓evF_c, ↓evF_f, new_nx, set_nx, new_get, set_get, getD_zero, getD_succ, u_not, pop, lop, aop, wop, resL, resV, tupleV, akV, isVal, isCell, Value.cells, List.map_cons, List.map_nil, Bool.not_true, Bool.not_false, Option.map_some, ↓reduceIte, Nat.reduceEqDiff, Nat.reduceAdd, Int.reduceOfNat, Int.reduceNegSucc, reduceCtorEq, List.getElem?_cons_zero, List.getElem?_cons_succ, List.length_cons, List.length_nil, srcR_c, src_n, src_v, src_s, bnd, lenV, capV, Option.isSome_none, Option.isNone_none, Option.isSome_some, Option.isNone_some, Bool.true_or, Bool.false_or, List.take_succ_cons, List.take_zero, List.drop_succ_cons, List.drop_zero, List.cons_append, List.nil_append, List.drop_nil, List.all_cons, List.all_nil, Bool.true_and, Kd.isRo, List.size_toArray, List.toList_toArray, bldV, Nat.reduceLeDiff, Int.reduceMul, Int.reduceAdd, Int.reduceSub, Int.reduceToNat, maxLen_eq, zeros_one, appS_some, appV_n, appV_v, appH_t, appH_f, Kd.isEx, Bool.false_and, partV, Nat.add_zero, Int.toNat_natCast]) | (with_reducible refine condK_dec (fun _ => ?_) (fun _ => ?_)) | (with_reducible refine grd_dec (fun _ => ?_) (fun _ => ?_)) | (with_reducible refine egrd_dec (fun _ => ?_) (fun _ => ?_)))
    obtain ⟨K4, hK4⟩ : ∃ K4, K4 = ((K3.new (.cells [.int .i64 0, .int .i64 0, .int .i64 0] 64 .ex)).set K3.nx (.cells [.int .i64 (hdK (wd ws a)), .int .i64 (tgN ws a : Int), .int .i64 (szN ws a : Int)] 64 .ex)) := ⟨_, rfl⟩
    have hn4 : K4.nx = K3.nx + 1 := by rw [hK4]; rfl
    have hlow : ∀ y, y < K'.nx → K4.ob y = K'.ob y := fun y hy => by rw [hK4, set_get, if_neg (by omega), new_get, if_neg (by omega)]; exact hx3.ob y hy
    have ho4 : K4.ob K3.nx = .cells [.int .i64 (hdK (wd ws a)), .int .i64 (tgN ws a : Int), .int .i64 (szN ws a : Int)] 64 .ex := by rw [hK4, set_get, if_pos rfl]
    rw [← hK4]
    obtain ⟨s, hs⟩ : ∃ s, szN ws a = s := ⟨_, rfl⟩
    obtain ⟨g, hg⟩ : ∃ g, tgN ws a = g := ⟨_, rfl⟩
    obtain ⟨Q, hQ⟩ : ∃ Q, Qk ws roots ls i = Q := ⟨_, rfl⟩
    have hta' := htF a hma.1 hma.2
    rw [hQn, hQ] at hta'
    have hcol : ∀ k, k < s → colF ws roots ls (Q + k) = objW ws roots ls a k := fun k hk => by
      have := colF_at (roots := roots) hF hma.1 hma.2 (j := k) (by omega)
      rw [hQn, hQ] at this
      exact this
    rw [hs, hg] at hsz
    rw [hs] at hlt
    rw [hs, hQ] at hQs
    rw [hs, hg] at ho4
    rw [hQ] at hwK'
    refine loop_w (fun m fr K5 => ∃ k : Nat, m = s - k ∧ k ≤ s ∧ fr 16 = .int .i64 (k : Int) ∧ K5.nx = K4.nx ∧ (∀ x, x ≠ K1.nx → K5.ob x = K4.ob x) ∧ K5.ob K1.nx = .cells (fnW ws.length (cutF ws roots ls (Q + k))) 50 .ex) (n := s) ⟨0, rfl, Nat.zero_le _, by (repeat' (first | (simp (disch := first | omega | (decide +kernel) | (repeat (first | assumption | exact HExt.refl _ | (refine HExt.set ?_ (by first | omega | (simp only [new_nx, set_nx]; omega)) _) | (refine HExt.new ?_ _)))) only [↓RD, RU, accW_t, accW_f, isW, ↓putF_get, ↓putF_none, ↓evF_t, ↓evF_c, ↓evF_f, new_nx, set_nx, new_get, set_get, getD_zero, getD_succ, u_not, pop, lop, aop, wop, resL, resV, tupleV, akV, isVal, isCell, Value.cells, List.map_cons, List.map_nil, Bool.not_true, Bool.not_false, Option.map_some, ↓reduceIte, Nat.reduceEqDiff, Nat.reduceAdd, Int.reduceOfNat, Int.reduceNegSucc, reduceCtorEq, List.getElem?_cons_zero, List.getElem?_cons_succ, List.length_cons, List.length_nil, srcR_c, src_n, src_v, src_s, bnd, lenV, capV, Option.isSome_none, Option.isNone_none, Option.isSome_some, Option.isNone_some, Bool.true_or, Bool.false_or, List.take_succ_cons, List.take_zero, List.drop_succ_cons, List.drop_zero, List.cons_append, List.nil_append, List.drop_nil, List.all_cons, List.all_nil, Bool.true_and, Kd.isRo, List.size_toArray, List.toList_toArray, bldV, Nat.reduceLeDiff, Int.reduceMul, Int.reduceAdd, Int.reduceSub, Int.reduceToNat, maxLen_eq, zeros_one, appS_some, appV_n, appV_v, appH_t, appH_f, Kd.isEx, Bool.false_and, partV, Nat.add_zero, Int.toNat_natCast]) | (with_reducible refine condK_dec (fun _ => ?_) (fun _ => ?_)) | (with_reducible refine grd_dec (fun _ => ?_) (fun _ => ?_)) | (with_reducible refine egrd_dec (fun _ => ?_) (fun _ => ?_)))); all_goals rfl, rfl, fun _ _ => rfl, (hlow _ (by omega)).trans hwK'⟩ ?_
    rintro m fr3 K5 ⟨k, rfl, hk, f16, hn5, ho5, hw5⟩ hag3
    have hb5 := (ho5 H.nx (by omega)).trans ((hlow _ (by omega)).trans hbK')
    have hm5 := (ho5 (K1.nx + 1) (by omega)).trans ((hlow _ (by omega)).trans hmK')
    have ht5 := (ho5 (K1.nx + 2) (by omega)).trans ((hlow _ (by omega)).trans htK')
    have hob5 := (ho5 K3.nx (by omega)).trans ho4
    have hl5 : K5.ob l = _ := (ho5 l (by omega)).trans ((hlow l (by have := hEK'.nx; omega)).trans ((hEK'.ob l (by omega)).trans ((hE1.ob l hl1).trans hob)))
    by_cases hks : k < s
    case neg =>
      have : k = s := by omega
      subst this
      repeat' (first | (simp (disch := first | omega | (decide +kernel) | (repeat (first | assumption | exact HExt.refl _ | (refine HExt.set ?_ (by first | omega | (simp only [new_nx, set_nx]; omega)) _) | (refine HExt.new ?_ _)))) only [↓RD, RU, accW_t, accW_f, isW, ↓putF_get, ↓putF_none, ↓evF_t, ↓evF_c, ↓evF_f, new_nx, set_nx, new_get, set_get, getD_zero, getD_succ, u_not, pop, lop, aop, wop, resL, resV, tupleV, akV, isVal, isCell, Value.cells, List.map_cons, List.map_nil, Bool.not_true, Bool.not_false, Option.map_some, ↓reduceIte, Nat.reduceEqDiff, Nat.reduceAdd, Int.reduceOfNat, Int.reduceNegSucc, reduceCtorEq, List.getElem?_cons_zero, List.getElem?_cons_succ, List.length_cons, List.length_nil, srcR_c, src_n, src_v, src_s, bnd, lenV, capV, Option.isSome_none, Option.isNone_none, Option.isSome_some, Option.isNone_some, Bool.true_or, Bool.false_or, List.take_succ_cons, List.take_zero, List.drop_succ_cons, List.drop_zero, List.cons_append, List.nil_append, List.drop_nil, List.all_cons, List.all_nil, Bool.true_and, Kd.isRo, List.size_toArray, List.toList_toArray, bldV, Nat.reduceLeDiff, Int.reduceMul, Int.reduceAdd, Int.reduceSub, Int.reduceToNat, maxLen_eq, zeros_one, appS_some, appV_n, appV_v, appH_t, appH_f, Kd.isEx, Bool.false_and, partV, Nat.add_zero, Int.toNat_natCast, f16, hag3, hag2, hag, hob5, f12]) | (with_reducible refine condK_dec (fun _ => ?_) (fun _ => ?_)) | (with_reducible refine grd_dec (fun _ => ?_) (fun _ => ?_)) | (with_reducible refine egrd_dec (fun _ => ?_) (fun _ => ?_)))
      refine ⟨_, by omega, i + 1, rfl, hil, rfl, by omega, fun x hx hne => ?_, by rw [hQs]; exact hw5⟩
      rw [ho5 x hne, hlow x (by omega)]; exact hoK' x hx hne
    have hgk := hos (a + k) (by omega)
    have hwk := wd_nonneg hu (a + k)
    have hgw : os[o + (a + k)]? = some (.int .u64 (wd ws (a + k))) := hgk
    have hgt := fnI_get (n := tn) (f := t) (i := a) (by omega)
    rw [hta'] at hgt
    have hset := fnW_set (n := ws.length) (f := cutF ws roots ls (Q + k)) (i := Q + k) (x := colF ws roots ls (Q + k)) (by omega)
    rw [cutF_up] at hset
    have hck := hcol k hks
    by_cases hfd : 2 ≤ k ∧ k < 2 + g
    · have hkk := hF.fld a hma.1 (k - 2) (by omega)
      have e2 : a + 2 + (k - 2) = a + k := by omega
      rw [e2] at hkk
      have htu : ∀ {Q' : Value → CH → Prop}, WpF (tblG Try.prog LG GG) 39 [.int .u64 (wd ws (a + k)), .slice (some ⟨K1.nx + 2, 0, none⟩) tn tn] K5 Q' ↔ Q' (.int .u64 (turnF ws roots ls (wd ws (a + k)))) K5 := wpF_iff (rturned_wp (K := K5) (w := wd ws (a + k)) (c := tn) hF ht5 htF hwk.1 hwk.2 fun h0 => ⟨hkk.2 h0, by
        have := Rc.step hma.2 (i := k - 2) (by omega) (by rw [e2]; exact h0)
        rwa [e2] at this⟩)
      have hov : objW ws roots ls a k = turnF ws roots ls (wd ws (a + k)) := by unfold objW; rw [if_pos (by omega)]
      rw [hck, hov] at hset
      repeat' (first | (simp (disch := first | omega | (decide +kernel) | (repeat (first | assumption | exact HExt.refl _ | (refine HExt.set ?_ (by first | omega | (simp only [new_nx, set_nx]; omega)) _) | (refine HExt.new ?_ _)))) only [↓RD, RU, accW_t, accW_f, isW, ↓putF_get, ↓putF_none, ↓evF_t, ↓evF_c, ↓evF_f, new_nx, set_nx, new_get, set_get, getD_zero, getD_succ, u_not, pop, lop, aop, wop, resL, resV, tupleV, akV, isVal, isCell, Value.cells, List.map_cons, List.map_nil, Bool.not_true, Bool.not_false, Option.map_some, ↓reduceIte, Nat.reduceEqDiff, Nat.reduceAdd, Int.reduceOfNat, Int.reduceNegSucc, reduceCtorEq, List.getElem?_cons_zero, List.getElem?_cons_succ, List.length_cons, List.length_nil, srcR_c, src_n, src_v, src_s, bnd, lenV, capV, Option.isSome_none, Option.isNone_none, Option.isSome_some, Option.isNone_some, Bool.true_or, Bool.false_or, List.take_succ_cons, List.take_zero, List.drop_succ_cons, List.drop_zero, List.cons_append, List.nil_append, List.drop_nil, List.all_cons, List.all_nil, Bool.true_and, Kd.isRo, List.size_toArray, List.toList_toArray, bldV, Nat.reduceLeDiff, Int.reduceMul, Int.reduceAdd, Int.reduceSub, Int.reduceToNat, maxLen_eq, zeros_one, appS_some, appV_n, appV_v, appH_t, appH_f, Kd.isEx, Bool.false_and, partV, Nat.add_zero, Int.toNat_natCast, f16, hag3, hag2, hag, hob5, hb5, hl5, hgw, toNat_addn, hm5, ht5, hw5, hgt, ↓hset, fnW_len, htu]) | (with_reducible refine condK_dec (fun _ => ?_) (fun _ => ?_)) | (with_reducible refine grd_dec (fun _ => ?_) (fun _ => ?_)) | (with_reducible refine egrd_dec (fun _ => ?_) (fun _ => ?_)))
      refine ⟨_, by omega, k + 1, rfl, by omega, rfl, hn5, fun x hx => ?_, by rw [Nat.add_assoc]⟩
      first | exact ho5 x hx | (rw [if_neg hx]; exact ho5 x hx)
    · have hov : objW ws roots ls a k = wd ws (a + k) := by unfold objW; rw [if_neg (by omega)]
      rw [hck, hov] at hset
      by_cases h2k : 2 ≤ k
      · repeat' (first | (simp (disch := first | omega | (decide +kernel) | (repeat (first | assumption | exact HExt.refl _ | (refine HExt.set ?_ (by first | omega | (simp only [new_nx, set_nx]; omega)) _) | (refine HExt.new ?_ _)))) only [↓RD, RU, accW_t, accW_f, isW, ↓putF_get, ↓putF_none, ↓evF_t, ↓evF_c, ↓evF_f, new_nx, set_nx, new_get, set_get, getD_zero, getD_succ, u_not, pop, lop, aop, wop, resL, resV, tupleV, akV, isVal, isCell, Value.cells, List.map_cons, List.map_nil, Bool.not_true, Bool.not_false, Option.map_some, ↓reduceIte, Nat.reduceEqDiff, Nat.reduceAdd, Int.reduceOfNat, Int.reduceNegSucc, reduceCtorEq, List.getElem?_cons_zero, List.getElem?_cons_succ, List.length_cons, List.length_nil, srcR_c, src_n, src_v, src_s, bnd, lenV, capV, Option.isSome_none, Option.isNone_none, Option.isSome_some, Option.isNone_some, Bool.true_or, Bool.false_or, List.take_succ_cons, List.take_zero, List.drop_succ_cons, List.drop_zero, List.cons_append, List.nil_append, List.drop_nil, List.all_cons, List.all_nil, Bool.true_and, Kd.isRo, List.size_toArray, List.toList_toArray, bldV, Nat.reduceLeDiff, Int.reduceMul, Int.reduceAdd, Int.reduceSub, Int.reduceToNat, maxLen_eq, zeros_one, appS_some, appV_n, appV_v, appH_t, appH_f, Kd.isEx, Bool.false_and, partV, Nat.add_zero, Int.toNat_natCast, f16, hag3, hag2, hag, hob5, hb5, hl5, hgw, toNat_addn, hm5, ht5, hw5, hgt, ↓hset, fnW_len]) | (with_reducible refine condK_dec (fun _ => ?_) (fun _ => ?_)) | (with_reducible refine grd_dec (fun _ => ?_) (fun _ => ?_)) | (with_reducible refine egrd_dec (fun _ => ?_) (fun _ => ?_)))
        refine ⟨_, by omega, k + 1, rfl, by omega, rfl, hn5, fun x hx => ?_, by rw [Nat.add_assoc]⟩
        first | exact ho5 x hx | (rw [if_neg hx]; exact ho5 x hx)
      · repeat' (first | (simp (disch := first | omega | (decide +kernel) | (repeat (first | assumption | exact HExt.refl _ | (refine HExt.set ?_ (by first | omega | (simp only [new_nx, set_nx]; omega)) _) | (refine HExt.new ?_ _)))) only [↓RD, RU, accW_t, accW_f, isW, ↓putF_get, ↓putF_none, ↓evF_t, ↓evF_c, ↓evF_f, new_nx, set_nx, new_get, set_get, getD_zero, getD_succ, u_not, pop, lop, aop, wop, resL, resV, tupleV, akV, isVal, isCell, Value.cells, List.map_cons, List.map_nil, Bool.not_true, Bool.not_false, Option.map_some, ↓reduceIte, Nat.reduceEqDiff, Nat.reduceAdd, Int.reduceOfNat, Int.reduceNegSucc, reduceCtorEq, List.getElem?_cons_zero, List.getElem?_cons_succ, List.length_cons, List.length_nil, srcR_c, src_n, src_v, src_s, bnd, lenV, capV, Option.isSome_none, Option.isNone_none, Option.isSome_some, Option.isNone_some, Bool.true_or, Bool.false_or, List.take_succ_cons, List.take_zero, List.drop_succ_cons, List.drop_zero, List.cons_append, List.nil_append, List.drop_nil, List.all_cons, List.all_nil, Bool.true_and, Kd.isRo, List.size_toArray, List.toList_toArray, bldV, Nat.reduceLeDiff, Int.reduceMul, Int.reduceAdd, Int.reduceSub, Int.reduceToNat, maxLen_eq, zeros_one, appS_some, appV_n, appV_v, appH_t, appH_f, Kd.isEx, Bool.false_and, partV, Nat.add_zero, Int.toNat_natCast, f16, hag3, hag2, hag, hob5, hb5, hl5, hgw, toNat_addn, hm5, ht5, hw5, hgt, ↓hset, fnW_len]) | (with_reducible refine condK_dec (fun _ => ?_) (fun _ => ?_)) | (with_reducible refine grd_dec (fun _ => ?_) (fun _ => ?_)) | (with_reducible refine egrd_dec (fun _ => ?_) (fun _ => ?_)))
        refine ⟨_, by omega, k + 1, rfl, by omega, rfl, hn5, fun x hx => ?_, by rw [Nat.add_assoc]⟩
        first | exact ho5 x hx | (rw [if_neg hx]; exact ho5 x hx)
  case neg =>
  have hie : i = R.length := by omega
  subst hie
  rw [hQe, cutF_end] at hwK'
  repeat' (first | (simp (disch := first | omega | (decide +kernel) | (repeat (first | assumption | exact HExt.refl _ | (refine HExt.set ?_ (by first | omega | (simp only [new_nx, set_nx]; omega)) _) | (refine HExt.new ?_ _)))) only [↓RD, RU, accW_t, accW_f, isW, ↓putF_get, ↓putF_none, ↓evF_t, ↓evF_c, ↓evF_f, new_nx, set_nx, new_get, set_get, getD_zero, getD_succ, u_not, pop, lop, aop, wop, resL, resV, tupleV, akV, isVal, isCell, Value.cells, List.map_cons, List.map_nil, Bool.not_true, Bool.not_false, Option.map_some, ↓reduceIte, Nat.reduceEqDiff, Nat.reduceAdd, Int.reduceOfNat, Int.reduceNegSucc, reduceCtorEq, List.getElem?_cons_zero, List.getElem?_cons_succ, List.length_cons, List.length_nil, srcR_c, src_n, src_v, src_s, bnd, lenV, capV, Option.isSome_none, Option.isNone_none, Option.isSome_some, Option.isNone_some, Bool.true_or, Bool.false_or, List.take_succ_cons, List.take_zero, List.drop_succ_cons, List.drop_zero, List.cons_append, List.nil_append, List.drop_nil, List.all_cons, List.all_nil, Bool.true_and, Kd.isRo, List.size_toArray, List.toList_toArray, bldV, Nat.reduceLeDiff, Int.reduceMul, Int.reduceAdd, Int.reduceSub, Int.reduceToNat, maxLen_eq, zeros_one, appS_some, appV_n, appV_v, appH_t, appH_f, Kd.isEx, Bool.false_and, partV, Nat.add_zero, Int.toNat_natCast, f12, hag2, hag]) | (with_reducible refine condK_dec (fun _ => ?_) (fun _ => ?_)) | (with_reducible refine grd_dec (fun _ => ?_) (fun _ => ?_)) | (with_reducible refine egrd_dec (fun _ => ?_) (fun _ => ?_)))
  refine loop_w (fun m fr K5 => ∃ (i : Nat) (v : Value), m = roots.length - i ∧ i ≤ roots.length ∧ fr 19 = .int .i64 (i : Int) ∧ fr 18 = v ∧ Grw K' 50 1 (ints .u64) K5 v ((roots.take i).map (turnF ws roots ls)) ∧ HExt K' K5) (n := roots.length) ⟨0, _, rfl, Nat.zero_le _, by (repeat' (first | (simp (disch := first | omega | (decide +kernel) | (repeat (first | assumption | exact HExt.refl _ | (refine HExt.set ?_ (by first | omega | (simp only [new_nx, set_nx]; omega)) _) | (refine HExt.new ?_ _)))) only [↓RD, RU, accW_t, accW_f, isW, ↓putF_get, ↓putF_none, ↓evF_t, ↓evF_c, ↓evF_f, new_nx, set_nx, new_get, set_get, getD_zero, getD_succ, u_not, pop, lop, aop, wop, resL, resV, tupleV, akV, isVal, isCell, Value.cells, List.map_cons, List.map_nil, Bool.not_true, Bool.not_false, Option.map_some, ↓reduceIte, Nat.reduceEqDiff, Nat.reduceAdd, Int.reduceOfNat, Int.reduceNegSucc, reduceCtorEq, List.getElem?_cons_zero, List.getElem?_cons_succ, List.length_cons, List.length_nil, srcR_c, src_n, src_v, src_s, bnd, lenV, capV, Option.isSome_none, Option.isNone_none, Option.isSome_some, Option.isNone_some, Bool.true_or, Bool.false_or, List.take_succ_cons, List.take_zero, List.drop_succ_cons, List.drop_zero, List.cons_append, List.nil_append, List.drop_nil, List.all_cons, List.all_nil, Bool.true_and, Kd.isRo, List.size_toArray, List.toList_toArray, bldV, Nat.reduceLeDiff, Int.reduceMul, Int.reduceAdd, Int.reduceSub, Int.reduceToNat, maxLen_eq, zeros_one, appS_some, appV_n, appV_v, appH_t, appH_f, Kd.isEx, Bool.false_and, partV, Nat.add_zero, Int.toNat_natCast]) | (with_reducible refine condK_dec (fun _ => ?_) (fun _ => ?_)) | (with_reducible refine grd_dec (fun _ => ?_) (fun _ => ?_)) | (with_reducible refine egrd_dec (fun _ => ?_) (fun _ => ?_)))); all_goals rfl, by (repeat' (first | (simp (disch := first | omega | (decide +kernel) | (repeat (first | assumption | exact HExt.refl _ | (refine HExt.set ?_ (by first | omega | (simp only [new_nx, set_nx]; omega)) _) | (refine HExt.new ?_ _)))) only [↓RD, RU, accW_t, accW_f, isW, ↓putF_get, ↓putF_none, ↓evF_t, ↓evF_c, ↓evF_f, new_nx, set_nx, new_get, set_get, getD_zero, getD_succ, u_not, pop, lop, aop, wop, resL, resV, tupleV, akV, isVal, isCell, Value.cells, List.map_cons, List.map_nil, Bool.not_true, Bool.not_false, Option.map_some, ↓reduceIte, Nat.reduceEqDiff, Nat.reduceAdd, Int.reduceOfNat, Int.reduceNegSucc, reduceCtorEq, List.getElem?_cons_zero, List.getElem?_cons_succ, List.length_cons, List.length_nil, srcR_c, src_n, src_v, src_s, bnd, lenV, capV, Option.isSome_none, Option.isNone_none, Option.isSome_some, Option.isNone_some, Bool.true_or, Bool.false_or, List.take_succ_cons, List.take_zero, List.drop_succ_cons, List.drop_zero, List.cons_append, List.nil_append, List.drop_nil, List.all_cons, List.all_nil, Bool.true_and, Kd.isRo, List.size_toArray, List.toList_toArray, bldV, Nat.reduceLeDiff, Int.reduceMul, Int.reduceAdd, Int.reduceSub, Int.reduceToNat, maxLen_eq, zeros_one, appS_some, appV_n, appV_v, appH_t, appH_f, Kd.isEx, Bool.false_and, partV, Nat.add_zero, Int.toNat_natCast]) | (with_reducible refine condK_dec (fun _ => ?_) (fun _ => ?_)) | (with_reducible refine grd_dec (fun _ => ?_) (fun _ => ?_)) | (with_reducible refine egrd_dec (fun _ => ?_) (fun _ => ?_)))); all_goals rfl, Grw.nil, HExt.refl _⟩ ?_
  rintro m fr3 K5 ⟨i, v, rfl, hi3, f19, f18, hGr, hx5⟩ hag3
  have ht5 := (hx5.ob (K1.nx + 2) (by omega)).trans htK'
  have hEH5 : HExt H K5 := hE1.trans (hEK'.trans hx5)
  by_cases hir : i < roots.length
  case pos =>
    obtain ⟨lr, orr, osr, er, kr, rfl, hlr, hcr, hmr, hobr, holr, hosr, hwfr⟩ := (hrs.good (CInt.good _) hEH5).ints (by omega)
    have hgr := hosr i hir
    obtain ⟨w, hw'⟩ : ∃ w, roots.getD i 0 = w := ⟨_, rfl⟩
    have hrw : roots[i]? = some w := by rw [← hw', List.getD_eq_getElem?_getD, List.getElem?_eq_getElem hir]; rfl
    rw [hw'] at hgr
    have hwm : w ∈ roots := List.mem_of_getElem? hrw
    have hwi := sl_u64 hrs w hwm
    have hkw := hr w hwm
    have htu : ∀ {Q' : Value → CH → Prop}, WpF (tblG Try.prog LG GG) 39 [.int .u64 w, .slice (some ⟨K1.nx + 2, 0, none⟩) tn tn] K5 Q' ↔ Q' (.int .u64 (turnF ws roots ls w)) K5 := wpF_iff (rturned_wp (K := K5) (w := w) (c := tn) hF ht5 htF hwi.1 hwi.2 fun h0 => ⟨hkw.2 h0, .root hwm h0⟩)
    repeat' (first | (simp (disch := first | omega | (decide +kernel) | (repeat (first | assumption | exact HExt.refl _ | (refine HExt.set ?_ (by first | omega | (simp only [new_nx, set_nx]; omega)) _) | (refine HExt.new ?_ _)))) only [↓RD, RU, accW_t, accW_f, isW, ↓putF_get, ↓putF_none, ↓evF_t, ↓evF_c, ↓evF_f, new_nx, set_nx, new_get, set_get, getD_zero, getD_succ, u_not, pop, lop, aop, wop, resL, resV, tupleV, akV, isVal, isCell, Value.cells, List.map_cons, List.map_nil, Bool.not_true, Bool.not_false, Option.map_some, ↓reduceIte, Nat.reduceEqDiff, Nat.reduceAdd, Int.reduceOfNat, Int.reduceNegSucc, reduceCtorEq, List.getElem?_cons_zero, List.getElem?_cons_succ, List.length_cons, List.length_nil, srcR_c, src_n, src_v, src_s, bnd, lenV, capV, Option.isSome_none, Option.isNone_none, Option.isSome_some, Option.isNone_some, Bool.true_or, Bool.false_or, List.take_succ_cons, List.take_zero, List.drop_succ_cons, List.drop_zero, List.cons_append, List.nil_append, List.drop_nil, List.all_cons, List.all_nil, Bool.true_and, Kd.isRo, List.size_toArray, List.toList_toArray, bldV, Nat.reduceLeDiff, Int.reduceMul, Int.reduceAdd, Int.reduceSub, Int.reduceToNat, maxLen_eq, zeros_one, appS_some, appV_n, appV_v, appH_t, appH_f, Kd.isEx, Bool.false_and, partV, Nat.add_zero, Int.toNat_natCast, f19, f18, hag3, hag2, hag, hobr, hgr, htu]) | (with_reducible refine condK_dec (fun _ => ?_) (fun _ => ?_)) | (with_reducible refine grd_dec (fun _ => ?_) (fun _ => ?_)) | (with_reducible refine egrd_dec (fun _ => ?_) (fun _ => ?_)))
    have htk : (roots.take (i + 1)).map (turnF ws roots ls) = (roots.take i).map (turnF ws roots ls) ++ [turnF ws roots ls w] := by
      obtain ⟨hi', rfl⟩ := List.getElem?_eq_some_iff.1 hrw
      rw [List.take_succ_eq_append_getElem hi', List.map_append]; rfl
    have htl : ((roots.take i).map (turnF ws roots ls)).length = i := by simp; omega
    refine optW_app (ints_ok .u64) (ys := [turnF ws roots ls w]) (hGr.ext (by (repeat (first | assumption | exact HExt.refl _ | (refine HExt.set ?_ (by first | omega | (simp only [new_nx, set_nx]; omega)) _) | (refine HExt.new ?_ _))))) (hx5.new _) (by simp only [htl, List.length_singleton]; omega) (by simp only [htl, List.length_singleton]; omega) rfl rfl fun v' K9' j1 j2 j3 j4 => ?_
    repeat' (first | (simp (disch := first | omega | (decide +kernel) | (repeat (first | assumption | exact HExt.refl _ | (refine HExt.set ?_ (by first | omega | (simp only [new_nx, set_nx]; omega)) _) | (refine HExt.new ?_ _)))) only [↓RD, RU, accW_t, accW_f, isW, ↓putF_get, ↓putF_none, ↓evF_t, ↓evF_c, ↓evF_f, new_nx, set_nx, new_get, set_get, getD_zero, getD_succ, u_not, pop, lop, aop, wop, resL, resV, tupleV, akV, isVal, isCell, Value.cells, List.map_cons, List.map_nil, Bool.not_true, Bool.not_false, Option.map_some, ↓reduceIte, Nat.reduceEqDiff, Nat.reduceAdd, Int.reduceOfNat, Int.reduceNegSucc, reduceCtorEq, List.getElem?_cons_zero, List.getElem?_cons_succ, List.length_cons, List.length_nil, srcR_c, src_n, src_v, src_s, bnd, lenV, capV, Option.isSome_none, Option.isNone_none, Option.isSome_some, Option.isNone_some, Bool.true_or, Bool.false_or, List.take_succ_cons, List.take_zero, List.drop_succ_cons, List.drop_zero, List.cons_append, List.nil_append, List.drop_nil, List.all_cons, List.all_nil, Bool.true_and, Kd.isRo, List.size_toArray, List.toList_toArray, bldV, Nat.reduceLeDiff, Int.reduceMul, Int.reduceAdd, Int.reduceSub, Int.reduceToNat, maxLen_eq, zeros_one, appS_some, appV_n, appV_v, appH_t, appH_f, Kd.isEx, Bool.false_and, partV, Nat.add_zero, Int.toNat_natCast, f19, hag3, hag2, hag]) | (with_reducible refine condK_dec (fun _ => ?_) (fun _ => ?_)) | (with_reducible refine grd_dec (fun _ => ?_) (fun _ => ?_)) | (with_reducible refine egrd_dec (fun _ => ?_) (fun _ => ?_)))
    exact ⟨_, by omega, i + 1, v', rfl, by omega, rfl, rfl, by rw [htk]; exact j1, j2⟩
  case neg =>
  have hie : i = roots.length := by omega
  subst hie
  rw [List.take_length] at hGr
  have hm5 := (hx5.ob (K1.nx + 1) (by omega)).trans hmK'
  have hr5 := (hx5.ob (H.nx + 1) (by omega)).trans ((hEK'.ob (H.nx + 1) (by omega)).trans hr1)
  have hw5 := (hx5.ob K1.nx (by omega)).trans hwK'
  have hnx5 := hx5.nx
  repeat' (first | (simp (disch := first | omega | (decide +kernel) | (repeat (first | assumption | exact HExt.refl _ | (refine HExt.set ?_ (by first | omega | (simp only [new_nx, set_nx]; omega)) _) | (refine HExt.new ?_ _)))) only [↓RD, RU, accW_t, accW_f, isW, ↓putF_get, ↓putF_none, ↓evF_t, ↓evF_c, ↓evF_f, new_nx, set_nx, new_get, set_get, getD_zero, getD_succ, u_not, pop, lop, aop, wop, resL, resV, tupleV, akV, isVal, isCell, Value.cells, List.map_cons, List.map_nil, Bool.not_true, Bool.not_false, Option.map_some, ↓reduceIte, Nat.reduceEqDiff, Nat.reduceAdd, Int.reduceOfNat, Int.reduceNegSucc, reduceCtorEq, List.getElem?_cons_zero, List.getElem?_cons_succ, List.length_cons, List.length_nil, srcR_c, src_n, src_v, src_s, bnd, lenV, capV, Option.isSome_none, Option.isNone_none, Option.isSome_some, Option.isNone_some, Bool.true_or, Bool.false_or, List.take_succ_cons, List.take_zero, List.drop_succ_cons, List.drop_zero, List.cons_append, List.nil_append, List.drop_nil, List.all_cons, List.all_nil, Bool.true_and, Kd.isRo, List.size_toArray, List.toList_toArray, bldV, Nat.reduceLeDiff, Int.reduceMul, Int.reduceAdd, Int.reduceSub, Int.reduceToNat, maxLen_eq, zeros_one, appS_some, appV_n, appV_v, appH_t, appH_f, Kd.isEx, Bool.false_and, partV, Nat.add_zero, Int.toNat_natCast, f19, f18, hag3, hag2, hag, hm5, hr5]) | (with_reducible refine condK_dec (fun _ => ?_) (fun _ => ?_)) | (with_reducible refine grd_dec (fun _ => ?_) (fun _ => ?_)) | (with_reducible refine egrd_dec (fun _ => ?_) (fun _ => ?_)))
  refine ⟨⟨by show H.nx ≤ K5.nx; omega, fun x hx => ?_⟩, K1.nx, v, rfl, by omega, by rw [if_neg (by omega)]; exact hw5, ?_⟩
  · rw [set_get, if_neg (by omega)]; exact hEH5.ob x hx
  · rcases hGr with g | ⟨bb, kk, e, g1, g2, g3, g4⟩
    · exact .inl g
    · have e1 := hE1.nx
      have e2 := hEK'.nx
      have e3 : H.nx + 2 ≤ K1.nx := hx1.nx
      have e4 : K'.nx ≤ bb := g1
      exact .inr ⟨bb, kk, e, by omega, g2, by rw [set_get, if_neg (by omega)]; exact g3, g4⟩
end Can
end Go.Proofs.Ytjgigomeneddpaa
