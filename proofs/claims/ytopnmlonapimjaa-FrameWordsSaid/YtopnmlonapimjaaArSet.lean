/- Arena: Set of a memory. -/
import Derived.Test.YtopnmlonapimjaaArCopy
namespace Go.Proofs.Ytopnmlonapimjaa
namespace Can
open Go Go.RowKit
set_option linter.unusedSimpArgs false
set_option linter.unusedVariables false
set_option maxRecDepth 4000
theorem seenhas_wp {H : CH} (a k t s i : Int) (hs : 0 ≤ s) (hs2 : s ≤ 9223372036854775807) : WpF (tblG Try.prog LG GG) 52 [.agg #[.int .i64 a, .int .i64 k, .int .i64 t, .int .i64 s], .int .i64 i] H fun v K => v = .bool (decide (0 ≤ i ∧ i < s - 2)) ∧ HExt H K := by
  refine wpF_rG (by rfl) (by kernel_rfl) ?_; (conv in (rF _ _).body => reduce); (conv in (rF _ _).res => reduce)
  repeat' (first | (simp (disch := first | omega | (decide +kernel) | (repeat first | assumption | exact HExt.refl _ | refine HExt.set ?_ (by first | omega | (simp only [new_nx, set_nx]; omega)) _ | refine HExt.new ?_ _)) only [↓RD, RU, accW_t, accW_f, isW, ↓putF_get, ↓putF_none, ↓evF_t, ↓evF_c, ↓evF_f, new_nx, set_nx, new_get, set_get, getD_zero, getD_succ, u_not, pop, lop, aop, wop, resL, resV, tupleV, akV, isVal, isCell, Value.cells, ρ0, ρ1, ρ2, ρ3, ρ4, ↓reduceIte, Nat.reduceEqDiff, Nat.reduceAdd, Int.reduceOfNat, Int.reduceNegSucc, reduceCtorEq, ρ5, ρ6, ρ7, ρ8, srcR_c, src_n, src_v, src_s, bnd, lenV, capV, ρ9, ρ10, ρ11, ρ12, ρ13, ρ14, ρ15, ρ16, ρ17, ρ18, ρ19, ρ20, ρ21, ρ22, ρ23, ρ24, Kd.isRo, ρ25, ρ26, bldV, Nat.reduceLeDiff, Int.reduceMul, Int.reduceAdd, Int.reduceSub, Int.reduceToNat, maxLen_eq, zeros_one, appS_some, appV_n, appV_v, appH_t, appH_f, Kd.isEx, ρ27, partV, ρ28, ρ29]) | (with_reducible first | refine condK_dec (fun _ => ?_) fun _ => ?_ | refine grd_dec (fun _ => ?_) fun _ => ?_ | refine egrd_dec (fun _ => ?_) fun _ => ?_))
  all_goals first | (refine ⟨?_, by (repeat (first | assumption | exact HExt.refl _ | (refine HExt.set ?_ (by first | omega | (simp only [new_nx, set_nx]; omega)) _) | (refine HExt.new ?_ _)))⟩; first | exact congrArg _ (decide_eq_decide.2 (by omega)) | (rw [decide_eq_false (by omega)]) | (rw [decide_eq_true (by omega)])) | (repeat (first | assumption | exact HExt.refl _ | (refine HExt.set ?_ (by first | omega | (simp only [new_nx, set_nx]; omega)) _) | (refine HExt.new ?_ _)))
/-- What is to be known of a memory that may be written. -/
structure MS (H : CH) (mb wb c : Nat) (kd : Kd) (ws : List Int) (top : Int) : Prop where
  hmb : H.ob mb = .cells [.slice (some ⟨wb, 0, none⟩) ws.length c, .int .i64 top] 24 .ex
  hwb : H.ob wb = .cells (ws.map (.int .u64)) 29 kd
  hk : kd.isRo = false
  ne : mb ≠ wb
  lm : mb < H.nx
  lw : wb < H.nx
  hc : ws.length ≤ c
  hc2 : c ≤ 9223372036854775807
  wf : ∀ x ∈ ws, (Lit.int .u64 x).wf = true
  ht : -9223372036854775808 ≤ top ∧ top ≤ 9223372036854775807
theorem MS.at {H : CH} {mb wb c : Nat} {kd : Kd} {ws : List Int} {top : Int} (h : MS H mb wb c kd ws top) : MemAt H H mb wb c kd ws top := ⟨rfl, h.hmb, h.hwb, fun _ _ _ => rfl⟩
theorem MS.words {H : CH} {mb wb c : Nat} {kd : Kd} {ws : List Int} {top : Int} (h : MS H mb wb c kd ws top) : Words H (some ⟨wb, 0, none⟩) c ws := words_own h.lw h.hwb h.hc (by rw [maxLen_eq]; exact h.hc2) h.wf
/-- The same memory, where others turn. -/
theorem MS.mv {H K : CH} {mb wb c : Nat} {kd : Kd} {ws : List Int} {top : Int} (h : MS H mb wb c kd ws top) (hx : HExt H K) : MS K mb wb c kd ws top := ⟨(hx.ob _ h.lm).trans h.hmb, (hx.ob _ h.lw).trans h.hwb, h.hk, h.ne, Nat.lt_of_lt_of_le h.lm hx.nx, Nat.lt_of_lt_of_le h.lw hx.nx, h.hc, h.hc2, h.wf, h.ht⟩
/-- All but a memory's two objects stays. -/
structure But (H K : CH) (mb wb : Nat) : Prop where
  nx : H.nx ≤ K.nx
  ob : ∀ l, l < H.nx → l ≠ mb → l ≠ wb → K.ob l = H.ob l
theorem But.refl (H : CH) (mb wb : Nat) : But H H mb wb := ⟨Nat.le_refl _, fun _ _ _ _ => rfl⟩
theorem But.trans {A H K : CH} {mb wb : Nat} (h : But A H mb wb) (k : But H K mb wb) : But A K mb wb := ⟨Nat.le_trans h.nx k.nx, fun l h1 h2 h3 => (k.ob l (Nat.lt_of_lt_of_le h1 h.nx) h2 h3).trans (h.ob l h1 h2 h3)⟩
theorem HExt.but {H K : CH} (h : HExt H K) (mb wb : Nat) : But H K mb wb := ⟨h.nx, fun l hl _ _ => h.ob l hl⟩
theorem MemAt.but {H K : CH} {mb wb c : Nat} {kd : Kd} {ws : List Int} {top : Int} (h : MemAt H K mb wb c kd ws top) : But H K mb wb := ⟨by rw [h.hnx]; exact Nat.le_refl _, fun l _ h2 h3 => h.hot l h2 h3⟩
theorem But.ext {A H K : CH} {mb wb : Nat} (h : But H K mb wb) (hA : HExt A H) (h1 : A.nx ≤ mb) (h2 : A.nx ≤ wb) : HExt A K := ⟨Nat.le_trans hA.nx h.nx, fun l hl => (h.ob l (Nat.lt_of_lt_of_le hl hA.nx) (by omega) (by omega)).trans (hA.ob l hl)⟩
theorem MS.to {H K : CH} {mb wb c : Nat} {kd : Kd} {ws us : List Int} {top t : Int} (h : MS H mb wb c kd ws top) (hm : MemAt H K mb wb c kd us t) (hl : us.length = ws.length) (hw : ∀ x ∈ us, (Lit.int .u64 x).wf = true) (ht : -9223372036854775808 ≤ t ∧ t ≤ 9223372036854775807) : MS K mb wb c kd us t :=
  ⟨hm.hmb, hm.hwb, h.hk, h.ne, by rw [hm.hnx]; exact h.lm, by rw [hm.hnx]; exact h.lw, by rw [hl]; exact h.hc, h.hc2, hw, ht⟩
/-- May the item be set? -/
def canS (ws : List Int) (top a i : Int) : Bool := inA top a ws.length && okH (wd ws a.toNat) top a && decide (0 ≤ i ∧ i < hdS (wd ws a.toNat) - 2)
def stE (ws : List Int) (top a i w : Int) : Int := if canS ws top a i then (if i < hdT (wd ws a.toNat) ∧ kindF w = 3 then 9 else 0) else 1
def stW (ws : List Int) (top a i w : Int) : List Int := if canS ws top a i then (if i < hdT (wd ws a.toNat) ∧ kindF w = 3 then ws else ws.set (a + 2 + i).toNat w) else ws
theorem hd_bounds {h : Int} : 0 ≤ hdK h ∧ hdK h < 256 ∧ 0 ≤ hdT h ∧ hdT h < 16777216 ∧ 0 ≤ hdS h ∧ hdS h < 16777216 := by
  unfold hdK hdT hdS; omega
theorem set_wp {H : CH} {mb wb c : Nat} {kd : Kd} {ws : List Int} {top : Int} (h : MS H mb wb c kd ws top) (a i w : Int) (ha : -9223372036854775808 ≤ a ∧ a ≤ 9223372036854775807) (hi : -9223372036854775808 ≤ i ∧ i ≤ 9223372036854775807) (hw : 0 ≤ w ∧ w < 18446744073709551616) :
    WpF (tblG Try.prog LG GG) 33 [.pointer (some ⟨mb, 0, none⟩), .int .i64 a, .int .i64 i, .int .u64 w] H fun v K => v = .int .i64 (stE ws top a i w) ∧ But H K mb wb ∧ MS K mb wb c kd (stW ws top a i w) top := by
  have hmb := h.hmb
  have hwb := h.hwb
  have hk := h.hk
  have hne := h.ne
  have hlm := h.lm
  have hlw := h.lw
  have hc := h.hc
  have hc2 := h.hc2
  have ht := h.ht
  refine wpF_rG (by rfl) (by kernel_rfl) ?_; (conv in (rF _ _).body => reduce); (conv in (rF _ _).res => reduce)
  repeat' (first | (simp (disch := first | omega | (decide +kernel) | (repeat first | assumption | exact HExt.refl _ | refine HExt.set ?_ (by first | omega | (simp only [new_nx, set_nx]; omega)) _ | refine HExt.new ?_ _)) only [↓RD, RU, accW_t, accW_f, isW, ↓putF_get, ↓putF_none, ↓evF_t, ↓evF_c, ↓evF_f, new_nx, set_nx, new_get, set_get, getD_zero, getD_succ, u_not, pop, lop, aop, wop, resL, resV, tupleV, akV, isVal, isCell, Value.cells, ρ0, ρ1, ρ2, ρ3, ρ4, ↓reduceIte, Nat.reduceEqDiff, Nat.reduceAdd, Int.reduceOfNat, Int.reduceNegSucc, reduceCtorEq, ρ5, ρ6, ρ7, ρ8, srcR_c, src_n, src_v, src_s, bnd, lenV, capV, ρ9, ρ10, ρ11, ρ12, ρ13, ρ14, ρ15, ρ16, ρ17, ρ18, ρ19, ρ20, ρ21, ρ22, ρ23, ρ24, Kd.isRo, ρ25, ρ26, bldV, Nat.reduceLeDiff, Int.reduceMul, Int.reduceAdd, Int.reduceSub, Int.reduceToNat, maxLen_eq, zeros_one, appS_some, appV_n, appV_v, appH_t, appH_f, Kd.isEx, ρ27, partV, ρ28, ρ29, hmb]) | (with_reducible first | refine condK_dec (fun _ => ?_) fun _ => ?_ | refine grd_dec (fun _ => ?_) fun _ => ?_ | refine egrd_dec (fun _ => ?_) fun _ => ?_))
  refine (look_wp h.words top a ht.1 ht.2 ha.1 ha.2 (by omega)).mono fun v K ⟨hv, hx⟩ => ?_
  have hbt := hx.but mb wb
  have hms := h.mv hx
  have hn := hx.nx
  by_cases hin : inA top a ws.length = true
  case neg =>
    have hcs : canS ws top a i = false := by simp [canS, hin]
    rw [if_neg hin] at hv
    subst hv
    repeat' (first | (simp (disch := first | omega | (decide +kernel) | (repeat first | assumption | exact HExt.refl _ | refine HExt.set ?_ (by first | omega | (simp only [new_nx, set_nx]; omega)) _ | refine HExt.new ?_ _)) only [↓RD, RU, accW_t, accW_f, isW, ↓putF_get, ↓putF_none, ↓evF_t, ↓evF_c, ↓evF_f, new_nx, set_nx, new_get, set_get, getD_zero, getD_succ, u_not, pop, lop, aop, wop, resL, resV, tupleV, akV, isVal, isCell, Value.cells, ρ0, ρ1, ρ2, ρ3, ρ4, ↓reduceIte, Nat.reduceEqDiff, Nat.reduceAdd, Int.reduceOfNat, Int.reduceNegSucc, reduceCtorEq, ρ5, ρ6, ρ7, ρ8, srcR_c, src_n, src_v, src_s, bnd, lenV, capV, ρ9, ρ10, ρ11, ρ12, ρ13, ρ14, ρ15, ρ16, ρ17, ρ18, ρ19, ρ20, ρ21, ρ22, ρ23, ρ24, Kd.isRo, ρ25, ρ26, bldV, Nat.reduceLeDiff, Int.reduceMul, Int.reduceAdd, Int.reduceSub, Int.reduceToNat, maxLen_eq, zeros_one, appS_some, appV_n, appV_v, appH_t, appH_f, Kd.isEx, ρ27, partV, ρ28, ρ29]) | (with_reducible first | refine condK_dec (fun _ => ?_) fun _ => ?_ | refine grd_dec (fun _ => ?_) fun _ => ?_ | refine egrd_dec (fun _ => ?_) fun _ => ?_))
    all_goals
      simp only [stE, stW, hcs, Bool.false_eq_true, if_false]
      exact ⟨trivial, hbt.trans (HExt.but (by (repeat (first | assumption | exact HExt.refl _ | (refine HExt.set ?_ (by first | omega | (simp only [new_nx, set_nx]; omega)) _) | (refine HExt.new ?_ _)))) _ _), hms.mv (by (repeat (first | assumption | exact HExt.refl _ | (refine HExt.set ?_ (by first | omega | (simp only [new_nx, set_nx]; omega)) _) | (refine HExt.new ?_ _))))⟩
  rw [if_pos hin] at hv
  subst hv
  have hd := hd_bounds (h := wd ws a.toNat)
  cases hok : okH (wd ws a.toNat) top a with
  | false =>
    have hcs : canS ws top a i = false := by simp [canS, hok]
    repeat' (first | (simp (disch := first | omega | (decide +kernel) | (repeat first | assumption | exact HExt.refl _ | refine HExt.set ?_ (by first | omega | (simp only [new_nx, set_nx]; omega)) _ | refine HExt.new ?_ _)) only [↓RD, RU, accW_t, accW_f, isW, ↓putF_get, ↓putF_none, ↓evF_t, ↓evF_c, ↓evF_f, new_nx, set_nx, new_get, set_get, getD_zero, getD_succ, u_not, pop, lop, aop, wop, resL, resV, tupleV, akV, isVal, isCell, Value.cells, ρ0, ρ1, ρ2, ρ3, ρ4, ↓reduceIte, Nat.reduceEqDiff, Nat.reduceAdd, Int.reduceOfNat, Int.reduceNegSucc, reduceCtorEq, ρ5, ρ6, ρ7, ρ8, srcR_c, src_n, src_v, src_s, bnd, lenV, capV, ρ9, ρ10, ρ11, ρ12, ρ13, ρ14, ρ15, ρ16, ρ17, ρ18, ρ19, ρ20, ρ21, ρ22, ρ23, ρ24, Kd.isRo, ρ25, ρ26, bldV, Nat.reduceLeDiff, Int.reduceMul, Int.reduceAdd, Int.reduceSub, Int.reduceToNat, maxLen_eq, zeros_one, appS_some, appV_n, appV_v, appH_t, appH_f, Kd.isEx, ρ27, partV, ρ28, ρ29]) | (with_reducible first | refine condK_dec (fun _ => ?_) fun _ => ?_ | refine grd_dec (fun _ => ?_) fun _ => ?_ | refine egrd_dec (fun _ => ?_) fun _ => ?_))
    all_goals
      simp only [stE, stW, hcs, Bool.false_eq_true, if_false]
      exact ⟨trivial, hbt.trans (HExt.but (by (repeat (first | assumption | exact HExt.refl _ | (refine HExt.set ?_ (by first | omega | (simp only [new_nx, set_nx]; omega)) _) | (refine HExt.new ?_ _)))) _ _), hms.mv (by (repeat (first | assumption | exact HExt.refl _ | (refine HExt.set ?_ (by first | omega | (simp only [new_nx, set_nx]; omega)) _) | (refine HExt.new ?_ _))))⟩
  | true =>
    repeat' (first | (simp (disch := first | omega | (decide +kernel) | (repeat first | assumption | exact HExt.refl _ | refine HExt.set ?_ (by first | omega | (simp only [new_nx, set_nx]; omega)) _ | refine HExt.new ?_ _)) only [↓RD, RU, accW_t, accW_f, isW, ↓putF_get, ↓putF_none, ↓evF_t, ↓evF_c, ↓evF_f, new_nx, set_nx, new_get, set_get, getD_zero, getD_succ, u_not, pop, lop, aop, wop, resL, resV, tupleV, akV, isVal, isCell, Value.cells, ρ0, ρ1, ρ2, ρ3, ρ4, ↓reduceIte, Nat.reduceEqDiff, Nat.reduceAdd, Int.reduceOfNat, Int.reduceNegSucc, reduceCtorEq, ρ5, ρ6, ρ7, ρ8, srcR_c, src_n, src_v, src_s, bnd, lenV, capV, ρ9, ρ10, ρ11, ρ12, ρ13, ρ14, ρ15, ρ16, ρ17, ρ18, ρ19, ρ20, ρ21, ρ22, ρ23, ρ24, Kd.isRo, ρ25, ρ26, bldV, Nat.reduceLeDiff, Int.reduceMul, Int.reduceAdd, Int.reduceSub, Int.reduceToNat, maxLen_eq, zeros_one, appS_some, appV_n, appV_v, appH_t, appH_f, Kd.isEx, ρ27, partV, ρ28, ρ29]) | (with_reducible first | refine condK_dec (fun _ => ?_) fun _ => ?_ | refine grd_dec (fun _ => ?_) fun _ => ?_ | refine egrd_dec (fun _ => ?_) fun _ => ?_))
    refine (seenhas_wp _ _ _ _ i hd.2.2.2.2.1 (by omega)).mono fun v K3 ⟨hv, hx3⟩ => ?_
    subst hv
    have hx13 : HExt K K3 := HExt.trans (by (repeat (first | assumption | exact HExt.refl _ | (refine HExt.set ?_ (by first | omega | (simp only [new_nx, set_nx]; omega)) _) | (refine HExt.new ?_ _)))) hx3
    have hms3 := hms.mv hx13
    have hbt3 := hbt.trans (hx13.but _ _)
    have hmb3 := hms3.hmb
    have hwb3 := hms3.hwb
    have hn3 := hx3.nx
    simp only [new_nx, set_nx] at hn3
    have hs3 : K3.ob K.nx = .cells [.int .i64 a, .int .i64 (hdK (wd ws a.toNat)), .int .i64 (hdT (wd ws a.toNat)), .int .i64 (hdS (wd ws a.toNat))] 94 .ex := (hx3.ob _ (by first | omega | (simp only [new_nx, set_nx]; omega))).trans (by repeat' (first | (simp (disch := first | omega | (decide +kernel) | (repeat first | assumption | exact HExt.refl _ | refine HExt.set ?_ (by first | omega | (simp only [new_nx, set_nx]; omega)) _ | refine HExt.new ?_ _)) only [↓RD, RU, accW_t, accW_f, isW, ↓putF_get, ↓putF_none, ↓evF_t, ↓evF_c, ↓evF_f, new_nx, set_nx, new_get, set_get, getD_zero, getD_succ, u_not, pop, lop, aop, wop, resL, resV, tupleV, akV, isVal, isCell, Value.cells, ρ0, ρ1, ρ2, ρ3, ρ4, ↓reduceIte, Nat.reduceEqDiff, Nat.reduceAdd, Int.reduceOfNat, Int.reduceNegSucc, reduceCtorEq, ρ5, ρ6, ρ7, ρ8, srcR_c, src_n, src_v, src_s, bnd, lenV, capV, ρ9, ρ10, ρ11, ρ12, ρ13, ρ14, ρ15, ρ16, ρ17, ρ18, ρ19, ρ20, ρ21, ρ22, ρ23, ρ24, Kd.isRo, ρ25, ρ26, bldV, Nat.reduceLeDiff, Int.reduceMul, Int.reduceAdd, Int.reduceSub, Int.reduceToNat, maxLen_eq, zeros_one, appS_some, appV_n, appV_v, appH_t, appH_f, Kd.isEx, ρ27, partV, ρ28, ρ29]) | (with_reducible first | refine condK_dec (fun _ => ?_) fun _ => ?_ | refine grd_dec (fun _ => ?_) fun _ => ?_ | refine egrd_dec (fun _ => ?_) fun _ => ?_)))
    by_cases hin2 : 0 ≤ i ∧ i < hdS (wd ws a.toNat) - 2
    case neg =>
      have hcs : canS ws top a i = false := by simp [canS, hok, hin2]
      rw [decide_eq_false hin2]
      repeat' (first | (simp (disch := first | omega | (decide +kernel) | (repeat first | assumption | exact HExt.refl _ | refine HExt.set ?_ (by first | omega | (simp only [new_nx, set_nx]; omega)) _ | refine HExt.new ?_ _)) only [↓RD, RU, accW_t, accW_f, isW, ↓putF_get, ↓putF_none, ↓evF_t, ↓evF_c, ↓evF_f, new_nx, set_nx, new_get, set_get, getD_zero, getD_succ, u_not, pop, lop, aop, wop, resL, resV, tupleV, akV, isVal, isCell, Value.cells, ρ0, ρ1, ρ2, ρ3, ρ4, ↓reduceIte, Nat.reduceEqDiff, Nat.reduceAdd, Int.reduceOfNat, Int.reduceNegSucc, reduceCtorEq, ρ5, ρ6, ρ7, ρ8, srcR_c, src_n, src_v, src_s, bnd, lenV, capV, ρ9, ρ10, ρ11, ρ12, ρ13, ρ14, ρ15, ρ16, ρ17, ρ18, ρ19, ρ20, ρ21, ρ22, ρ23, ρ24, Kd.isRo, ρ25, ρ26, bldV, Nat.reduceLeDiff, Int.reduceMul, Int.reduceAdd, Int.reduceSub, Int.reduceToNat, maxLen_eq, zeros_one, appS_some, appV_n, appV_v, appH_t, appH_f, Kd.isEx, ρ27, partV, ρ28, ρ29]) | (with_reducible first | refine condK_dec (fun _ => ?_) fun _ => ?_ | refine grd_dec (fun _ => ?_) fun _ => ?_ | refine egrd_dec (fun _ => ?_) fun _ => ?_))
      simp only [stE, stW, hcs, Bool.false_eq_true, if_false]
      exact ⟨trivial, hbt3, hms3⟩
    have hcs : canS ws top a i = true := by simp [canS, hok, hin, hin2]
    have hin' := of_decide_eq_true hin
    have hok' := of_decide_eq_true (show decide _ = true from hok)
    rw [decide_eq_true hin2]
    have hset : setCells (ws.map (.int .u64)) (a + 2 + i).toNat [.int .u64 w] = (ws.set (a + 2 + i).toNat w).map (.int .u64) := set_word (by omega)
    have hms4 : ∀ {t : Int}, t = top → MS (K3.set wb (.cells ((ws.set (a + 2 + i).toNat w).map (.int .u64)) 29 kd)) mb wb c kd (ws.set (a + 2 + i).toNat w) t := fun {t} ht' => by
      subst ht'
      refine ⟨by rw [set_get, if_neg hne, List.length_set]; exact hmb3, by rw [set_get, if_pos rfl], hk, hne, hms3.lm, hms3.lw, by rw [List.length_set]; exact hc, hc2, fun x hx => ?_, h.ht⟩
      rcases List.mem_or_eq_of_mem_set hx with hx | rfl
      · exact h.wf x hx
      · simp [Lit.wf, IntKind.min, IntKind.max, IntKind.signed, IntKind.bits]; omega
    have hbt4 : But H (K3.set wb (.cells ((ws.set (a + 2 + i).toNat w).map (.int .u64)) 29 kd)) mb wb := hbt3.trans ⟨Nat.le_refl _, fun l _ _ h3 => by rw [set_get, if_neg h3]⟩
    by_cases hlt : i < hdT (wd ws a.toNat)
    · by_cases hk3 : kindF w = 3
      · repeat' (first | (simp (disch := first | omega | (decide +kernel) | (repeat first | assumption | exact HExt.refl _ | refine HExt.set ?_ (by first | omega | (simp only [new_nx, set_nx]; omega)) _ | refine HExt.new ?_ _)) only [↓RD, RU, accW_t, accW_f, isW, ↓putF_get, ↓putF_none, ↓evF_t, ↓evF_c, ↓evF_f, new_nx, set_nx, new_get, set_get, getD_zero, getD_succ, u_not, pop, lop, aop, wop, resL, resV, tupleV, akV, isVal, isCell, Value.cells, ρ0, ρ1, ρ2, ρ3, ρ4, ↓reduceIte, Nat.reduceEqDiff, Nat.reduceAdd, Int.reduceOfNat, Int.reduceNegSucc, reduceCtorEq, ρ5, ρ6, ρ7, ρ8, srcR_c, src_n, src_v, src_s, bnd, lenV, capV, ρ9, ρ10, ρ11, ρ12, ρ13, ρ14, ρ15, ρ16, ρ17, ρ18, ρ19, ρ20, ρ21, ρ22, ρ23, ρ24, Kd.isRo, ρ25, ρ26, bldV, Nat.reduceLeDiff, Int.reduceMul, Int.reduceAdd, Int.reduceSub, Int.reduceToNat, maxLen_eq, zeros_one, appS_some, appV_n, appV_v, appH_t, appH_f, Kd.isEx, ρ27, partV, ρ28, ρ29, hs3, kind_iff, hk3]) | (with_reducible first | refine condK_dec (fun _ => ?_) fun _ => ?_ | refine grd_dec (fun _ => ?_) fun _ => ?_ | refine egrd_dec (fun _ => ?_) fun _ => ?_))
        simp only [stE, stW, hcs, hlt, hk3, and_self, if_true]
        exact ⟨trivial, hbt3, hms3⟩
      · repeat' (first | (simp (disch := first | omega | (decide +kernel) | (repeat first | assumption | exact HExt.refl _ | refine HExt.set ?_ (by first | omega | (simp only [new_nx, set_nx]; omega)) _ | refine HExt.new ?_ _)) only [↓RD, RU, accW_t, accW_f, isW, ↓putF_get, ↓putF_none, ↓evF_t, ↓evF_c, ↓evF_f, new_nx, set_nx, new_get, set_get, getD_zero, getD_succ, u_not, pop, lop, aop, wop, resL, resV, tupleV, akV, isVal, isCell, Value.cells, ρ0, ρ1, ρ2, ρ3, ρ4, ↓reduceIte, Nat.reduceEqDiff, Nat.reduceAdd, Int.reduceOfNat, Int.reduceNegSucc, reduceCtorEq, ρ5, ρ6, ρ7, ρ8, srcR_c, src_n, src_v, src_s, bnd, lenV, capV, ρ9, ρ10, ρ11, ρ12, ρ13, ρ14, ρ15, ρ16, ρ17, ρ18, ρ19, ρ20, ρ21, ρ22, ρ23, ρ24, Kd.isRo, ρ25, ρ26, bldV, Nat.reduceLeDiff, Int.reduceMul, Int.reduceAdd, Int.reduceSub, Int.reduceToNat, maxLen_eq, zeros_one, appS_some, appV_n, appV_v, appH_t, appH_f, Kd.isEx, ρ27, partV, ρ28, ρ29, hs3, kind_iff, hk3, hmb3, hwb3, ↓hk, hset, List.length_set]) | (with_reducible first | refine condK_dec (fun _ => ?_) fun _ => ?_ | refine grd_dec (fun _ => ?_) fun _ => ?_ | refine egrd_dec (fun _ => ?_) fun _ => ?_))
        simp only [stE, stW, hcs, hlt, hk3, and_false, if_true, if_false]
        exact ⟨trivial, hbt4, hms4 rfl⟩
    · repeat' (first | (simp (disch := first | omega | (decide +kernel) | (repeat first | assumption | exact HExt.refl _ | refine HExt.set ?_ (by first | omega | (simp only [new_nx, set_nx]; omega)) _ | refine HExt.new ?_ _)) only [↓RD, RU, accW_t, accW_f, isW, ↓putF_get, ↓putF_none, ↓evF_t, ↓evF_c, ↓evF_f, new_nx, set_nx, new_get, set_get, getD_zero, getD_succ, u_not, pop, lop, aop, wop, resL, resV, tupleV, akV, isVal, isCell, Value.cells, ρ0, ρ1, ρ2, ρ3, ρ4, ↓reduceIte, Nat.reduceEqDiff, Nat.reduceAdd, Int.reduceOfNat, Int.reduceNegSucc, reduceCtorEq, ρ5, ρ6, ρ7, ρ8, srcR_c, src_n, src_v, src_s, bnd, lenV, capV, ρ9, ρ10, ρ11, ρ12, ρ13, ρ14, ρ15, ρ16, ρ17, ρ18, ρ19, ρ20, ρ21, ρ22, ρ23, ρ24, Kd.isRo, ρ25, ρ26, bldV, Nat.reduceLeDiff, Int.reduceMul, Int.reduceAdd, Int.reduceSub, Int.reduceToNat, maxLen_eq, zeros_one, appS_some, appV_n, appV_v, appH_t, appH_f, Kd.isEx, ρ27, partV, ρ28, ρ29, hs3, kind_iff, hmb3, hwb3, ↓hk, hset, List.length_set]) | (with_reducible first | refine condK_dec (fun _ => ?_) fun _ => ?_ | refine grd_dec (fun _ => ?_) fun _ => ?_ | refine egrd_dec (fun _ => ?_) fun _ => ?_))
      simp only [stE, stW, hcs, hlt, false_and, if_true, if_false]
      exact ⟨trivial, hbt4, hms4 rfl⟩
end Can
end Go.Proofs.Ytopnmlonapimjaa
