/- Frame: a new frame: the program. -/
import Derived.Test.YtopnmlonapimjaaFwChain
namespace Go.Proofs.Ytopnmlonapimjaa
namespace Can
open Go Go.RowKit
set_option linter.unusedSimpArgs false
set_option linter.unusedVariables false
set_option maxRecDepth 4000
theorem small0_wp (H : CH) : WpF (tblG Try.prog LG GG) 31 [.int .i64 0] H fun v K => v = .tuple #[.int .u64 1, .int .i64 0] ∧ K = H := by
  have ho : svOf (binOp .or 0 (.int .u64 0) (.int .u64 1)) = some (.int .u64 1) := by rfl
  refine wpF_rG (by rfl) (by kernel_rfl) ?_; (conv in (rF _ _).body => reduce); (conv in (rF _ _).res => reduce)
  repeat' (first | (simp (disch := first | omega | (decide +kernel) | (repeat first | assumption | exact HExt.refl _ | refine HExt.set ?_ (by first | omega | (simp only [new_nx, set_nx]; omega)) _ | refine HExt.new ?_ _)) only [↓RD, RU, accW_t, accW_f, isW, ↓putF_get, ↓putF_none, ↓evF_t, ↓evF_c, ↓evF_f, new_nx, set_nx, new_get, set_get, getD_zero, getD_succ, u_not, pop, lop, aop, wop, resL, resV, tupleV, akV, isVal, isCell, Value.cells, ρ0, ρ1, ρ2, ρ3, ρ4, ↓reduceIte, Nat.reduceEqDiff, Nat.reduceAdd, Int.reduceOfNat, Int.reduceNegSucc, reduceCtorEq, ρ5, ρ6, ρ7, ρ8, srcR_c, src_n, src_v, src_s, bnd, lenV, capV, ρ9, ρ10, ρ11, ρ12, ρ13, ρ14, ρ15, ρ16, ρ17, ρ18, ρ19, ρ20, ρ21, ρ22, ρ23, ρ24, Kd.isRo, ρ25, ρ26, bldV, Nat.reduceLeDiff, Int.reduceMul, Int.reduceAdd, Int.reduceSub, Int.reduceToNat, maxLen_eq, zeros_one, appS_some, appV_n, appV_v, appH_t, appH_f, Kd.isEx, ρ27, partV, ρ28, ρ29, ho]) | (with_reducible first | refine condK_dec (fun _ => ?_) fun _ => ?_ | refine grd_dec (fun _ => ?_) fun _ => ?_ | refine egrd_dec (fun _ => ?_) fun _ => ?_))
theorem small0_iff {H : CH} {Q : Value → CH → Prop} : WpF (tblG Try.prog LG GG) 31 [.int .i64 0] H Q ↔ Q (.tuple #[.int .u64 1, .int .i64 0]) H := wpF_iff (small0_wp H)
theorem addr_wp (H : CH) (a : Int) (h1 : 1 ≤ a) (h2 : a < 1048576) : WpF (tblG Try.prog LG GG) 34 [.int .i64 a] H fun v K => v = .tuple #[.int .u64 (4 * a), .int .i64 0] ∧ K = H := by
  refine wpF_rG (by rfl) (by kernel_rfl) ?_; (conv in (rF _ _).body => reduce); (conv in (rF _ _).res => reduce)
  repeat' (first | (simp (disch := first | omega | (decide +kernel) | (repeat first | assumption | exact HExt.refl _ | refine HExt.set ?_ (by first | omega | (simp only [new_nx, set_nx]; omega)) _ | refine HExt.new ?_ _)) only [↓RD, RU, accW_t, accW_f, isW, ↓putF_get, ↓putF_none, ↓evF_t, ↓evF_c, ↓evF_f, new_nx, set_nx, new_get, set_get, getD_zero, getD_succ, u_not, pop, lop, aop, wop, resL, resV, tupleV, akV, isVal, isCell, Value.cells, ρ0, ρ1, ρ2, ρ3, ρ4, ↓reduceIte, Nat.reduceEqDiff, Nat.reduceAdd, Int.reduceOfNat, Int.reduceNegSucc, reduceCtorEq, ρ5, ρ6, ρ7, ρ8, srcR_c, src_n, src_v, src_s, bnd, lenV, capV, ρ9, ρ10, ρ11, ρ12, ρ13, ρ14, ρ15, ρ16, ρ17, ρ18, ρ19, ρ20, ρ21, ρ22, ρ23, ρ24, Kd.isRo, ρ25, ρ26, bldV, Nat.reduceLeDiff, Int.reduceMul, Int.reduceAdd, Int.reduceSub, Int.reduceToNat, maxLen_eq, zeros_one, appS_some, appV_n, appV_v, appH_t, appH_f, Kd.isEx, ρ27, partV, ρ28, ρ29]) | (with_reducible first | refine condK_dec (fun _ => ?_) fun _ => ?_ | refine grd_dec (fun _ => ?_) fun _ => ?_ | refine egrd_dec (fun _ => ?_) fun _ => ?_))
  all_goals first | rfl | (congr 1; omega) | (rw [Int.mul_comm])
theorem addr_iff {H : CH} {a : Int} {Q : Value → CH → Prop} (h1 : 1 ≤ a) (h2 : a < 1048576) : WpF (tblG Try.prog LG GG) 34 [.int .i64 a] H Q ↔ Q (.tuple #[.int .u64 (4 * a), .int .i64 0]) H := wpF_iff (addr_wp H a h1 h2)
/-- No room. -/
theorem allocno_wp {H : CH} {mb wb c : Nat} {kd : Kd} {ws : List Int} {top : Int} (hM : MS H mb wb c kd ws top) (k tg : Nat) (h1 : 1 ≤ top ∧ top ≤ ws.length) (h3 : 1 ≤ k) (h4 : k ≤ 255) (h5 : tg ≤ 1048576) (h7 : (ws.length : Int) < top + (2 + tg)) :
    WpF (tblG Try.prog LG GG) 30 [.pointer (some ⟨mb, 0, none⟩), .int .i64 k, .int .i64 tg, .int .i64 0] H fun v K => v = .tuple #[.int .i64 0, .int .i64 5] ∧ K = H := by
  have hmb := hM.hmb
  have hc := hM.hc
  have hc2 := hM.hc2
  refine wpF_rG (by rfl) (by kernel_rfl) ?_; (conv in (rF _ _).body => reduce); (conv in (rF _ _).res => reduce)
  repeat' (first | (simp (disch := first | omega | (decide +kernel) | (repeat first | assumption | exact HExt.refl _ | refine HExt.set ?_ (by first | omega | (simp only [new_nx, set_nx]; omega)) _ | refine HExt.new ?_ _)) only [↓RD, RU, accW_t, accW_f, isW, ↓putF_get, ↓putF_none, ↓evF_t, ↓evF_c, ↓evF_f, new_nx, set_nx, new_get, set_get, getD_zero, getD_succ, u_not, pop, lop, aop, wop, resL, resV, tupleV, akV, isVal, isCell, Value.cells, ρ0, ρ1, ρ2, ρ3, ρ4, ↓reduceIte, Nat.reduceEqDiff, Nat.reduceAdd, Int.reduceOfNat, Int.reduceNegSucc, reduceCtorEq, ρ5, ρ6, ρ7, ρ8, srcR_c, src_n, src_v, src_s, bnd, lenV, capV, ρ9, ρ10, ρ11, ρ12, ρ13, ρ14, ρ15, ρ16, ρ17, ρ18, ρ19, ρ20, ρ21, ρ22, ρ23, ρ24, Kd.isRo, ρ25, ρ26, bldV, Nat.reduceLeDiff, Int.reduceMul, Int.reduceAdd, Int.reduceSub, Int.reduceToNat, maxLen_eq, zeros_one, appS_some, appV_n, appV_v, appH_t, appH_f, Kd.isEx, ρ27, partV, ρ28, ρ29, hmb]) | (with_reducible first | refine condK_dec (fun _ => ?_) fun _ => ?_ | refine grd_dec (fun _ => ?_) fun _ => ?_ | refine egrd_dec (fun _ => ?_) fun _ => ?_))
theorem layhd {n : Nat} (h : n ≤ 65536) {x : Int} (hx : x = (19 : Int) + 256 * ((6 + n : Nat) : Int) + 4294967296 * ((2 + (6 + n) + 0 : Nat) : Int)) : hdK x = 19 ∧ hdT x = 6 + (n : Int) ∧ hdS x = 8 + (n : Int) := by
  obtain ⟨A, hA⟩ : ∃ A : Int, A = ((6 + n : Nat) : Int) := ⟨_, rfl⟩
  obtain ⟨B, hB⟩ : ∃ B : Int, B = ((2 + (6 + n) + 0 : Nat) : Int) := ⟨_, rfl⟩
  rw [← hA, ← hB] at hx
  have e1 : x / 256 = A + 16777216 * B := by omega
  have e2 : x / 4294967296 = B := by omega
  unfold hdK hdT hdS
  rw [e1, e2]
  refine ⟨by omega, by omega, by omega⟩
/-- The head of a new frame. -/
def hd19 (n : Nat) : Int := (19 : Int) + 256 * ((6 + n : Nat) : Int) + 4294967296 * ((2 + (6 + n) + 0 : Nat) : Int)
/-- The words behind a new frame of which j registers are laid. -/
def nwF (ws : List Int) (t n j i : Nat) : Int := if t ≤ i ∧ i < t + 8 + n then (if i = t then hd19 n else if i = t + 1 then 0 else if i = t + 4 ∨ i = t + 6 then 1 else if t + 8 ≤ i ∧ i < t + 8 + j then 14 else 2) else wd ws i
structure NwI (ws us : List Int) (t n j : Nat) : Prop where
  len : us.length = ws.length
  at' : ∀ i, i < ws.length → wd us i = nwF ws t n j i
theorem st_new {us : List Int} {t n : Nat} {i w : Int} (hh : wd us t = hd19 n) (hn : n ≤ 65536) (ht : 1 ≤ t) (hl : t + 8 + n ≤ us.length) (hi : 0 ≤ i ∧ i < 6 + n) (hw : kindF w ≠ 3) : stW us ((t + (2 + (6 + n) + 0) : Nat) : Int) (t : Int) i w = us.set (t + 2 + i.toNat) w := by
  have hd := layhd hn (x := wd us t) hh
  have hc : canS us ((t + (2 + (6 + n) + 0) : Nat) : Int) (t : Int) i = true := by
    unfold canS inA okH
    rw [Int.toNat_natCast, hd.1, hd.2.1, hd.2.2]
    simp only [Bool.and_eq_true, decide_eq_true_eq]
    omega
  unfold stW
  rw [hc, if_pos rfl, if_neg (fun h => hw h.2)]
  have : ((t : Int) + 2 + i).toNat = t + 2 + i.toNat := by omega
  rw [this]
theorem lay_wf {ws : List Int} {t k tg rw : Nat} (hw : ∀ x ∈ ws, (Lit.int .u64 x).wf = true) (h4 : k ≤ 255) (h5 : tg ≤ 1048576) (h6 : rw ≤ 1048576) : ∀ x ∈ layF ws t k tg rw, (Lit.int .u64 x).wf = true := by
  intro x hx
  unfold layF at hx
  obtain ⟨i, hi, rfl⟩ := List.mem_map.1 hx
  have hi' := List.mem_range.1 hi
  have hwd : (Lit.int .u64 (wd ws i)).wf = true := by
    unfold wd
    rw [List.getD_eq_getElem?_getD, List.getElem?_eq_getElem hi']
    exact hw _ (List.getElem_mem hi')
  (repeat' split) <;> first | exact hwd | (simp [Lit.wf, IntKind.min, IntKind.max, IntKind.signed, IntKind.bits]; done) | (simp [Lit.wf, IntKind.min, IntKind.max, IntKind.signed, IntKind.bits]; omega)
/-- What New answers. -/
def nwOk (ws : List Int) (top n : Int) : Prop := 0 ≤ n ∧ n ≤ 65536 ∧ top + (8 + n) ≤ ws.length
def NwOut (H K : CH) (mb wb c : Nat) (kd : Kd) (ws : List Int) (top n : Int) (v : Value) : Prop :=
  But H K mb wb ∧ ((¬ nwOk ws top n ∧ (∃ e : Int, v = .tuple #[.int .u64 0, .int .i64 e] ∧ (if 0 ≤ n ∧ n ≤ 65536 then e = 5 else e = 1)) ∧ MS K mb wb c kd ws top) ∨ (nwOk ws top n ∧ ∃ us, NwI ws us top.toNat n.toNat n.toNat ∧ v = .tuple #[.int .u64 (4 * top), .int .i64 0] ∧ MS K mb wb c kd us (top + (8 + n))))
set_option maxHeartbeats 1000000 in
theorem fnew_wp {H : CH} {mb wb c : Nat} {kd : Kd} {ws : List Int} {top : Int} (hM : MS H mb wb c kd ws top) (h1 : 1 ≤ top ∧ top ≤ ws.length) (hl : ws.length ≤ 1048576) (n : Int) (h4 : -9223372036854775808 ≤ n ∧ n ≤ 9223372036854775807) :
    WpF (tblG Try.prog LG GG) 10 [.pointer (some ⟨mb, 0, none⟩), .int .i64 n] H fun v K => NwOut H K mb wb c kd ws top n v := by
  by_cases hn : 0 ≤ n ∧ n ≤ 65536
  case neg =>
    refine wpF_rG (by rfl) (by kernel_rfl) ?_; (conv in (rF _ _).body => reduce); (conv in (rF _ _).res => reduce)
    repeat' (first | (simp (disch := first | omega | (decide +kernel) | (repeat first | assumption | exact HExt.refl _ | refine HExt.set ?_ (by first | omega | (simp only [new_nx, set_nx]; omega)) _ | refine HExt.new ?_ _)) only [↓RD, RU, accW_t, accW_f, isW, ↓putF_get, ↓putF_none, ↓evF_t, ↓evF_c, ↓evF_f, new_nx, set_nx, new_get, set_get, getD_zero, getD_succ, u_not, pop, lop, aop, wop, resL, resV, tupleV, akV, isVal, isCell, Value.cells, ρ0, ρ1, ρ2, ρ3, ρ4, ↓reduceIte, Nat.reduceEqDiff, Nat.reduceAdd, Int.reduceOfNat, Int.reduceNegSucc, reduceCtorEq, ρ5, ρ6, ρ7, ρ8, srcR_c, src_n, src_v, src_s, bnd, lenV, capV, ρ9, ρ10, ρ11, ρ12, ρ13, ρ14, ρ15, ρ16, ρ17, ρ18, ρ19, ρ20, ρ21, ρ22, ρ23, ρ24, Kd.isRo, ρ25, ρ26, bldV, Nat.reduceLeDiff, Int.reduceMul, Int.reduceAdd, Int.reduceSub, Int.reduceToNat, maxLen_eq, zeros_one, appS_some, appV_n, appV_v, appH_t, appH_f, Kd.isEx, ρ27, partV, ρ28, ρ29]) | (with_reducible first | refine condK_dec (fun _ => ?_) fun _ => ?_ | refine grd_dec (fun _ => ?_) fun _ => ?_ | refine egrd_dec (fun _ => ?_) fun _ => ?_))
    all_goals exact ⟨But.refl _ _ _, .inl ⟨fun h => hn ⟨h.1, h.2.1⟩, ⟨1, rfl, by rw [if_neg hn]⟩, hM⟩⟩
  obtain ⟨m, rfl⟩ := Int.eq_ofNat_of_zero_le hn.1
  obtain ⟨t, rfl⟩ := Int.eq_ofNat_of_zero_le (show 0 ≤ top by omega)
  have e6 : (6 : Int) + (m : Int) = ((6 + m : Nat) : Int) := by omega
  by_cases hroom : (t : Int) + (8 + (m : Int)) ≤ ws.length
  case neg =>
    refine wpF_rG (by rfl) (by kernel_rfl) ?_; (conv in (rF _ _).body => reduce); (conv in (rF _ _).res => reduce)
    repeat' (first | (simp (disch := first | omega | (decide +kernel) | (repeat first | assumption | exact HExt.refl _ | refine HExt.set ?_ (by first | omega | (simp only [new_nx, set_nx]; omega)) _ | refine HExt.new ?_ _)) only [↓RD, RU, accW_t, accW_f, isW, ↓putF_get, ↓putF_none, ↓evF_t, ↓evF_c, ↓evF_f, new_nx, set_nx, new_get, set_get, getD_zero, getD_succ, u_not, pop, lop, aop, wop, resL, resV, tupleV, akV, isVal, isCell, Value.cells, ρ0, ρ1, ρ2, ρ3, ρ4, ↓reduceIte, Nat.reduceEqDiff, Nat.reduceAdd, Int.reduceOfNat, Int.reduceNegSucc, reduceCtorEq, ρ5, ρ6, ρ7, ρ8, srcR_c, src_n, src_v, src_s, bnd, lenV, capV, ρ9, ρ10, ρ11, ρ12, ρ13, ρ14, ρ15, ρ16, ρ17, ρ18, ρ19, ρ20, ρ21, ρ22, ρ23, ρ24, Kd.isRo, ρ25, ρ26, bldV, Nat.reduceLeDiff, Int.reduceMul, Int.reduceAdd, Int.reduceSub, Int.reduceToNat, maxLen_eq, zeros_one, appS_some, appV_n, appV_v, appH_t, appH_f, Kd.isEx, ρ27, partV, ρ28, ρ29, e6]) | (with_reducible first | refine condK_dec (fun _ => ?_) fun _ => ?_ | refine grd_dec (fun _ => ?_) fun _ => ?_ | refine egrd_dec (fun _ => ?_) fun _ => ?_))
    refine (allocno_wp hM 19 (6 + m) h1 (by omega) (by omega) (by omega) (by omega)).mono fun v K ⟨hv, hK⟩ => ?_
    subst hv hK
    repeat' (first | (simp (disch := first | omega | (decide +kernel) | (repeat first | assumption | exact HExt.refl _ | refine HExt.set ?_ (by first | omega | (simp only [new_nx, set_nx]; omega)) _ | refine HExt.new ?_ _)) only [↓RD, RU, accW_t, accW_f, isW, ↓putF_get, ↓putF_none, ↓evF_t, ↓evF_c, ↓evF_f, new_nx, set_nx, new_get, set_get, getD_zero, getD_succ, u_not, pop, lop, aop, wop, resL, resV, tupleV, akV, isVal, isCell, Value.cells, ρ0, ρ1, ρ2, ρ3, ρ4, ↓reduceIte, Nat.reduceEqDiff, Nat.reduceAdd, Int.reduceOfNat, Int.reduceNegSucc, reduceCtorEq, ρ5, ρ6, ρ7, ρ8, srcR_c, src_n, src_v, src_s, bnd, lenV, capV, ρ9, ρ10, ρ11, ρ12, ρ13, ρ14, ρ15, ρ16, ρ17, ρ18, ρ19, ρ20, ρ21, ρ22, ρ23, ρ24, Kd.isRo, ρ25, ρ26, bldV, Nat.reduceLeDiff, Int.reduceMul, Int.reduceAdd, Int.reduceSub, Int.reduceToNat, maxLen_eq, zeros_one, appS_some, appV_n, appV_v, appH_t, appH_f, Kd.isEx, ρ27, partV, ρ28, ρ29]) | (with_reducible first | refine condK_dec (fun _ => ?_) fun _ => ?_ | refine grd_dec (fun _ => ?_) fun _ => ?_ | refine egrd_dec (fun _ => ?_) fun _ => ?_))
    all_goals exact ⟨But.refl _ _ _, .inl ⟨fun h => hroom h.2.2, ⟨5, rfl, by rw [if_pos hn]⟩, hM⟩⟩
  have hok : nwOk ws t m := ⟨hn.1, hn.2, hroom⟩
  refine wpF_rG (by rfl) (by kernel_rfl) ?_; (conv in (rF _ _).body => reduce); (conv in (rF _ _).res => reduce)
  repeat' (first | (simp (disch := first | omega | (decide +kernel) | (repeat first | assumption | exact HExt.refl _ | refine HExt.set ?_ (by first | omega | (simp only [new_nx, set_nx]; omega)) _ | refine HExt.new ?_ _)) only [↓RD, RU, accW_t, accW_f, isW, ↓putF_get, ↓putF_none, ↓evF_t, ↓evF_c, ↓evF_f, new_nx, set_nx, new_get, set_get, getD_zero, getD_succ, u_not, pop, lop, aop, wop, resL, resV, tupleV, akV, isVal, isCell, Value.cells, ρ0, ρ1, ρ2, ρ3, ρ4, ↓reduceIte, Nat.reduceEqDiff, Nat.reduceAdd, Int.reduceOfNat, Int.reduceNegSucc, reduceCtorEq, ρ5, ρ6, ρ7, ρ8, srcR_c, src_n, src_v, src_s, bnd, lenV, capV, ρ9, ρ10, ρ11, ρ12, ρ13, ρ14, ρ15, ρ16, ρ17, ρ18, ρ19, ρ20, ρ21, ρ22, ρ23, ρ24, Kd.isRo, ρ25, ρ26, bldV, Nat.reduceLeDiff, Int.reduceMul, Int.reduceAdd, Int.reduceSub, Int.reduceToNat, maxLen_eq, zeros_one, appS_some, appV_n, appV_v, appH_t, appH_f, Kd.isEx, ρ27, partV, ρ28, ρ29, e6]) | (with_reducible first | refine condK_dec (fun _ => ?_) fun _ => ?_ | refine grd_dec (fun _ => ?_) fun _ => ?_ | refine egrd_dec (fun _ => ?_) fun _ => ?_))
  refine (alloc_wp hM.at hM.hk hM.ne hM.hc hM.hc2 19 (6 + m) 0 (by omega) (by omega) (by omega) (by omega) (by omega) (by omega)).mono fun v K1 ⟨hv, hA⟩ => ?_
  subst hv
  have hb1 := hA.but
  have hM1 := hM.to hA lay_len (lay_wf hM.wf (by omega) (by omega) (by omega)) (by omega)
  have hlay : ∀ i, i < ws.length → wd (layF ws t 19 (6 + m) 0) i = if t ≤ i ∧ i < t + (2 + (6 + m) + 0) then (if i = t then hd19 m else if t + 2 ≤ i ∧ i < t + 2 + (6 + m) then 2 else 0) else wd ws i := fun i hi => lay_wd hi
  obtain ⟨u1, hu1⟩ : ∃ u1, layF ws t 19 (6 + m) 0 = u1 := ⟨_, rfl⟩
  have hl1 : u1.length = ws.length := by rw [← hu1]; exact lay_len
  rw [hu1] at hM1 hlay
  repeat' (first | (simp (disch := first | omega | (decide +kernel) | (repeat first | assumption | exact HExt.refl _ | refine HExt.set ?_ (by first | omega | (simp only [new_nx, set_nx]; omega)) _ | refine HExt.new ?_ _)) only [↓RD, RU, accW_t, accW_f, isW, ↓putF_get, ↓putF_none, ↓evF_t, ↓evF_c, ↓evF_f, new_nx, set_nx, new_get, set_get, getD_zero, getD_succ, u_not, pop, lop, aop, wop, resL, resV, tupleV, akV, isVal, isCell, Value.cells, ρ0, ρ1, ρ2, ρ3, ρ4, ↓reduceIte, Nat.reduceEqDiff, Nat.reduceAdd, Int.reduceOfNat, Int.reduceNegSucc, reduceCtorEq, ρ5, ρ6, ρ7, ρ8, srcR_c, src_n, src_v, src_s, bnd, lenV, capV, ρ9, ρ10, ρ11, ρ12, ρ13, ρ14, ρ15, ρ16, ρ17, ρ18, ρ19, ρ20, ρ21, ρ22, ρ23, ρ24, Kd.isRo, ρ25, ρ26, bldV, Nat.reduceLeDiff, Int.reduceMul, Int.reduceAdd, Int.reduceSub, Int.reduceToNat, maxLen_eq, zeros_one, appS_some, appV_n, appV_v, appH_t, appH_f, Kd.isEx, ρ27, partV, ρ28, ρ29, small0_iff, cst3_iff]) | (with_reducible first | refine condK_dec (fun _ => ?_) fun _ => ?_ | refine grd_dec (fun _ => ?_) fun _ => ?_ | refine egrd_dec (fun _ => ?_) fun _ => ?_))
  refine (set_wp hM1 t 2 1 (by omega) (by omega) (by omega)).mono fun v K2 ⟨_, hb2, hM2⟩ => ?_
  rw [st_new (n := m) (by rw [hlay t (by omega), if_pos (by omega), if_pos rfl]) (by omega) (by omega) (by omega) (by omega) (by decide)] at hM2
  obtain ⟨u2, hu2⟩ : ∃ u2, u1.set (t + 2 + (2 : Int).toNat) 1 = u2 := ⟨_, rfl⟩
  have hl2 : u2.length = ws.length := by rw [← hu2]; simp [hl1]
  have hlay2 : ∀ i, i < ws.length → wd u2 i = if i = t + 4 then 1 else wd u1 i := fun i hi => by rw [← hu2, wd_set (by rw [hl1]; show t + 2 + 2 < _; omega)]; rfl
  rw [hu2] at hM2
  have hd1 : wd u1 t = hd19 m := by rw [hlay t (by omega), if_pos (by omega), if_pos rfl]
  have hd2 : wd u2 t = hd19 m := by rw [hlay2 t (by omega), if_neg (by omega)]; exact hd1
  repeat' (first | (simp (disch := first | omega | (decide +kernel) | (repeat first | assumption | exact HExt.refl _ | refine HExt.set ?_ (by first | omega | (simp only [new_nx, set_nx]; omega)) _ | refine HExt.new ?_ _)) only [↓RD, RU, accW_t, accW_f, isW, ↓putF_get, ↓putF_none, ↓evF_t, ↓evF_c, ↓evF_f, new_nx, set_nx, new_get, set_get, getD_zero, getD_succ, u_not, pop, lop, aop, wop, resL, resV, tupleV, akV, isVal, isCell, Value.cells, ρ0, ρ1, ρ2, ρ3, ρ4, ↓reduceIte, Nat.reduceEqDiff, Nat.reduceAdd, Int.reduceOfNat, Int.reduceNegSucc, reduceCtorEq, ρ5, ρ6, ρ7, ρ8, srcR_c, src_n, src_v, src_s, bnd, lenV, capV, ρ9, ρ10, ρ11, ρ12, ρ13, ρ14, ρ15, ρ16, ρ17, ρ18, ρ19, ρ20, ρ21, ρ22, ρ23, ρ24, Kd.isRo, ρ25, ρ26, bldV, Nat.reduceLeDiff, Int.reduceMul, Int.reduceAdd, Int.reduceSub, Int.reduceToNat, maxLen_eq, zeros_one, appS_some, appV_n, appV_v, appH_t, appH_f, Kd.isEx, ρ27, partV, ρ28, ρ29]) | (with_reducible first | refine condK_dec (fun _ => ?_) fun _ => ?_ | refine grd_dec (fun _ => ?_) fun _ => ?_ | refine egrd_dec (fun _ => ?_) fun _ => ?_))
  refine (set_wp hM2 t 4 1 (by omega) (by omega) (by omega)).mono fun v K3 ⟨_, hb3, hM3⟩ => ?_
  rw [st_new (n := m) hd2 (by omega) (by omega) (by omega) (by omega) (by decide)] at hM3
  obtain ⟨u3, hu3⟩ : ∃ u3, u2.set (t + 2 + (4 : Int).toNat) 1 = u3 := ⟨_, rfl⟩
  have hl3 : u3.length = ws.length := by rw [← hu3]; simp [hl2]
  have hlay3 : ∀ i, i < ws.length → wd u3 i = if i = t + 6 then 1 else wd u2 i := fun i hi => by rw [← hu3, wd_set (by rw [hl2]; show t + 2 + 4 < _; omega)]; rfl
  rw [hu3] at hM3
  have hN3 : NwI ws u3 t m 0 := ⟨hl3, fun i hi => by
    rw [hlay3 i hi, hlay2 i hi, hlay i hi]
    unfold nwF
    (repeat' split) <;> first | rfl | (exfalso; omega)⟩
  have hb := hb1.trans (hb2.trans hb3)
  repeat' (first | (simp (disch := first | omega | (decide +kernel) | (repeat first | assumption | exact HExt.refl _ | refine HExt.set ?_ (by first | omega | (simp only [new_nx, set_nx]; omega)) _ | refine HExt.new ?_ _)) only [↓RD, RU, accW_t, accW_f, isW, ↓putF_get, ↓putF_none, ↓evF_t, ↓evF_c, ↓evF_f, new_nx, set_nx, new_get, set_get, getD_zero, getD_succ, u_not, pop, lop, aop, wop, resL, resV, tupleV, akV, isVal, isCell, Value.cells, ρ0, ρ1, ρ2, ρ3, ρ4, ↓reduceIte, Nat.reduceEqDiff, Nat.reduceAdd, Int.reduceOfNat, Int.reduceNegSucc, reduceCtorEq, ρ5, ρ6, ρ7, ρ8, srcR_c, src_n, src_v, src_s, bnd, lenV, capV, ρ9, ρ10, ρ11, ρ12, ρ13, ρ14, ρ15, ρ16, ρ17, ρ18, ρ19, ρ20, ρ21, ρ22, ρ23, ρ24, Kd.isRo, ρ25, ρ26, bldV, Nat.reduceLeDiff, Int.reduceMul, Int.reduceAdd, Int.reduceSub, Int.reduceToNat, maxLen_eq, zeros_one, appS_some, appV_n, appV_v, appH_t, appH_f, Kd.isEx, ρ27, partV, ρ28, ρ29]) | (with_reducible first | refine condK_dec (fun _ => ?_) fun _ => ?_ | refine grd_dec (fun _ => ?_) fun _ => ?_ | refine egrd_dec (fun _ => ?_) fun _ => ?_))
  refine loop_w (fun mm fr K => ∃ (j : Nat) (us : List Int), mm = m - j ∧ j ≤ m ∧ fr 50 = .int .i64 (j : Int) ∧ But H K mb wb ∧ MS K mb wb c kd us ((t + (2 + (6 + m) + 0) : Nat) : Int) ∧ NwI ws us t m j) (n := m) ⟨0, u3, rfl, Nat.zero_le _, by (repeat' (first | (simp (disch := first | omega | (decide +kernel) | (repeat first | assumption | exact HExt.refl _ | refine HExt.set ?_ (by first | omega | (simp only [new_nx, set_nx]; omega)) _ | refine HExt.new ?_ _)) only [↓RD, RU, accW_t, accW_f, isW, ↓putF_get, ↓putF_none, ↓evF_t, ↓evF_c, ↓evF_f, new_nx, set_nx, new_get, set_get, getD_zero, getD_succ, u_not, pop, lop, aop, wop, resL, resV, tupleV, akV, isVal, isCell, Value.cells, ρ0, ρ1, ρ2, ρ3, ρ4, ↓reduceIte, Nat.reduceEqDiff, Nat.reduceAdd, Int.reduceOfNat, Int.reduceNegSucc, reduceCtorEq, ρ5, ρ6, ρ7, ρ8, srcR_c, src_n, src_v, src_s, bnd, lenV, capV, ρ9, ρ10, ρ11, ρ12, ρ13, ρ14, ρ15, ρ16, ρ17, ρ18, ρ19, ρ20, ρ21, ρ22, ρ23, ρ24, Kd.isRo, ρ25, ρ26, bldV, Nat.reduceLeDiff, Int.reduceMul, Int.reduceAdd, Int.reduceSub, Int.reduceToNat, maxLen_eq, zeros_one, appS_some, appV_n, appV_v, appH_t, appH_f, Kd.isEx, ρ27, partV, ρ28, ρ29]) | (with_reducible first | refine condK_dec (fun _ => ?_) fun _ => ?_ | refine grd_dec (fun _ => ?_) fun _ => ?_ | refine egrd_dec (fun _ => ?_) fun _ => ?_))); all_goals rfl, hb, hM3, hN3⟩ ?_
  rintro mm fr K ⟨j, us, rfl, hj, g50, hbK, hMK, hNK⟩ hag
  by_cases hjm : j < m
  case neg =>
    have : j = m := by omega
    subst this
    repeat' (first | (simp (disch := first | omega | (decide +kernel) | (repeat first | assumption | exact HExt.refl _ | refine HExt.set ?_ (by first | omega | (simp only [new_nx, set_nx]; omega)) _ | refine HExt.new ?_ _)) only [↓RD, RU, accW_t, accW_f, isW, ↓putF_get, ↓putF_none, ↓evF_t, ↓evF_c, ↓evF_f, new_nx, set_nx, new_get, set_get, getD_zero, getD_succ, u_not, pop, lop, aop, wop, resL, resV, tupleV, akV, isVal, isCell, Value.cells, ρ0, ρ1, ρ2, ρ3, ρ4, ↓reduceIte, Nat.reduceEqDiff, Nat.reduceAdd, Int.reduceOfNat, Int.reduceNegSucc, reduceCtorEq, ρ5, ρ6, ρ7, ρ8, srcR_c, src_n, src_v, src_s, bnd, lenV, capV, ρ9, ρ10, ρ11, ρ12, ρ13, ρ14, ρ15, ρ16, ρ17, ρ18, ρ19, ρ20, ρ21, ρ22, ρ23, ρ24, Kd.isRo, ρ25, ρ26, bldV, Nat.reduceLeDiff, Int.reduceMul, Int.reduceAdd, Int.reduceSub, Int.reduceToNat, maxLen_eq, zeros_one, appS_some, appV_n, appV_v, appH_t, appH_f, Kd.isEx, ρ27, partV, ρ28, ρ29, g50, hag, addr_iff]) | (with_reducible first | refine condK_dec (fun _ => ?_) fun _ => ?_ | refine grd_dec (fun _ => ?_) fun _ => ?_ | refine egrd_dec (fun _ => ?_) fun _ => ?_))
    all_goals
      refine ⟨hbK, .inr ⟨hok, us, hNK, rfl, ?_⟩⟩
      have e : ((t + (2 + (6 + j) + 0) : Nat) : Int) = (t : Int) + (8 + (j : Int)) := by omega
      rw [← e]
      exact hMK
  have hul := hNK.len
  have hdj : wd us t = hd19 m := by rw [hNK.at' t (by omega)]; unfold nwF; rw [if_pos (by omega), if_pos rfl]
  repeat' (first | (simp (disch := first | omega | (decide +kernel) | (repeat first | assumption | exact HExt.refl _ | refine HExt.set ?_ (by first | omega | (simp only [new_nx, set_nx]; omega)) _ | refine HExt.new ?_ _)) only [↓RD, RU, accW_t, accW_f, isW, ↓putF_get, ↓putF_none, ↓evF_t, ↓evF_c, ↓evF_f, new_nx, set_nx, new_get, set_get, getD_zero, getD_succ, u_not, pop, lop, aop, wop, resL, resV, tupleV, akV, isVal, isCell, Value.cells, ρ0, ρ1, ρ2, ρ3, ρ4, ↓reduceIte, Nat.reduceEqDiff, Nat.reduceAdd, Int.reduceOfNat, Int.reduceNegSucc, reduceCtorEq, ρ5, ρ6, ρ7, ρ8, srcR_c, src_n, src_v, src_s, bnd, lenV, capV, ρ9, ρ10, ρ11, ρ12, ρ13, ρ14, ρ15, ρ16, ρ17, ρ18, ρ19, ρ20, ρ21, ρ22, ρ23, ρ24, Kd.isRo, ρ25, ρ26, bldV, Nat.reduceLeDiff, Int.reduceMul, Int.reduceAdd, Int.reduceSub, Int.reduceToNat, maxLen_eq, zeros_one, appS_some, appV_n, appV_v, appH_t, appH_f, Kd.isEx, ρ27, partV, ρ28, ρ29, g50, hag]) | (with_reducible first | refine condK_dec (fun _ => ?_) fun _ => ?_ | refine grd_dec (fun _ => ?_) fun _ => ?_ | refine egrd_dec (fun _ => ?_) fun _ => ?_))
  refine (set_wp hMK t (6 + (j : Int)) 14 (by omega) (by omega) (by omega)).mono fun v K4 ⟨_, hb4, hM4⟩ => ?_
  rw [st_new (n := m) hdj (by omega) (by omega) (by omega) (by omega) (by decide)] at hM4
  have e2 : t + 2 + (6 + (j : Int)).toNat = t + 8 + j := by omega
  rw [e2] at hM4
  repeat' (first | (simp (disch := first | omega | (decide +kernel) | (repeat first | assumption | exact HExt.refl _ | refine HExt.set ?_ (by first | omega | (simp only [new_nx, set_nx]; omega)) _ | refine HExt.new ?_ _)) only [↓RD, RU, accW_t, accW_f, isW, ↓putF_get, ↓putF_none, ↓evF_t, ↓evF_c, ↓evF_f, new_nx, set_nx, new_get, set_get, getD_zero, getD_succ, u_not, pop, lop, aop, wop, resL, resV, tupleV, akV, isVal, isCell, Value.cells, ρ0, ρ1, ρ2, ρ3, ρ4, ↓reduceIte, Nat.reduceEqDiff, Nat.reduceAdd, Int.reduceOfNat, Int.reduceNegSucc, reduceCtorEq, ρ5, ρ6, ρ7, ρ8, srcR_c, src_n, src_v, src_s, bnd, lenV, capV, ρ9, ρ10, ρ11, ρ12, ρ13, ρ14, ρ15, ρ16, ρ17, ρ18, ρ19, ρ20, ρ21, ρ22, ρ23, ρ24, Kd.isRo, ρ25, ρ26, bldV, Nat.reduceLeDiff, Int.reduceMul, Int.reduceAdd, Int.reduceSub, Int.reduceToNat, maxLen_eq, zeros_one, appS_some, appV_n, appV_v, appH_t, appH_f, Kd.isEx, ρ27, partV, ρ28, ρ29, g50, hag]) | (with_reducible first | refine condK_dec (fun _ => ?_) fun _ => ?_ | refine grd_dec (fun _ => ?_) fun _ => ?_ | refine egrd_dec (fun _ => ?_) fun _ => ?_))
  refine ⟨_, by omega, j + 1, us.set (t + 8 + j) 14, rfl, by omega, rfl, hbK.trans hb4, hM4, ⟨by simp [hul], fun i hi => ?_⟩⟩
  rw [wd_set (by omega), hNK.at' i hi]
  unfold nwF
  by_cases q1 : i = t + 8 + j
  · rw [if_pos q1, if_pos (by omega), if_neg (by omega), if_neg (by omega), if_neg (by omega), if_pos (by omega)]
  · rw [if_neg q1]
    by_cases q2 : t ≤ i ∧ i < t + 8 + m
    · rw [if_pos q2, if_pos q2]
      by_cases q3 : i = t
      · rw [if_pos q3, if_pos q3]
      · rw [if_neg q3, if_neg q3]
        by_cases q4 : i = t + 1
        · rw [if_pos q4, if_pos q4]
        · rw [if_neg q4, if_neg q4]
          by_cases q5 : i = t + 4 ∨ i = t + 6
          · rw [if_pos q5, if_pos q5]
          · rw [if_neg q5, if_neg q5]
            by_cases q6 : t + 8 ≤ i ∧ i < t + 8 + j
            · rw [if_pos q6, if_pos (by omega)]
            · rw [if_neg q6, if_neg (by omega)]
    · rw [if_neg q2, if_neg q2]
end Can
end Go.Proofs.Ytopnmlonapimjaa
