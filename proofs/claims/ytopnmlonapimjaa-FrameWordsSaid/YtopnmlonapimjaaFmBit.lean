/- Words of bits; Has and Is (out of the texts of flow and roots). -/
import Derived.Test.YtopnmlonapimjaaCanWord
namespace Go.Proofs.Ytopnmlonapimjaa
namespace Can
open Go Go.RowKit
set_option linter.unusedSimpArgs false
set_option linter.unusedVariables false
set_option maxRecDepth 4000
def bitW (ws : List Nat) (r : Nat) : Bool := (ws.getD (r / 64) 0).testBit (r % 64)
def W64 (ws : List Nat) : Prop := ∀ w ∈ ws, w < 18446744073709551616
theorem W64.get {ws : List Nat} (h : W64 ws) (i : Nat) : ws.getD i 0 < 18446744073709551616 := by
  by_cases hi : i < ws.length
  · simp only [List.getD, List.getElem?_eq_getElem hi, Option.getD_some]; exact h _ (List.getElem_mem hi)
  · simp [List.getD, List.getElem?_eq_none (Nat.le_of_not_lt hi)]
theorem b_and1N {a : Nat} (ha : a < 18446744073709551616) : svOf (binOp .and 0 (.int .u64 (a : Int)) (.int .u64 1)) = some (.int .u64 ((a &&& 1 : Nat) : Int)) := by
  have := b_and_u64 (a := (a : Int)) (b := 1) (by omega) (by omega) (by omega) (by omega)
  rw [this]; simp
theorem b_shrN {a k : Nat} (hk : k < 64) : svOf (binOp .shr 0 (.int .u64 (a : Int)) (.int .u64 (k : Int))) = some (.int .u64 ((a >>> k : Nat) : Int)) := by
  rw [b_shr (by omega)]
  have h1 : min ((k : Int).toNat) IntKind.u64.bits = k := by simp [IntKind.bits]; omega
  rw [h1, Nat.shiftRight_eq_div_pow]
  congr 2
  have e : ((2 : Int) ^ k) = ((2 ^ k : Nat) : Int) := by simp
  rw [e, Int.fdiv_eq_ediv_of_nonneg _ (Int.natCast_nonneg _)]
  rfl
theorem bit_dec {w k : Nat} : decide (((w >>> k &&& 1 : Nat) : Int) = 1) = w.testBit k := by
  unfold Nat.testBit
  rw [Nat.and_comm]
  rcases Nat.mod_two_eq_zero_or_one (w >>> k) with h | h
  · have : 1 &&& w >>> k = 0 := by rw [Nat.and_comm, Nat.and_one_is_mod, h]
    rw [this]; rfl
  · have : 1 &&& w >>> k = 1 := by rw [Nat.and_comm, Nat.and_one_is_mod, h]
    rw [this]; rfl
theorem b_shrNi {a k : Nat} (hk : k < 64) : svOf (binOp .shr 0 (.int .u64 (a : Int)) (.int .i64 (k : Int))) = some (.int .u64 ((a >>> k : Nat) : Int)) := by
  rw [b_shr (by omega)]
  have h1 : min ((k : Int).toNat) IntKind.u64.bits = k := by simp [IntKind.bits]; omega
  rw [h1, Nat.shiftRight_eq_div_pow]
  congr 2
  have e : ((2 : Int) ^ k) = ((2 ^ k : Nat) : Int) := by simp
  rw [e, Int.fdiv_eq_ediv_of_nonneg _ (Int.natCast_nonneg _)]
  rfl
def bitI (ws : List Nat) (r : Int) : Bool := decide (0 ≤ r) && bitW ws r.toNat
structure WAt (H : CH) (q : Option Addr) (c : Nat) (ws : List Nat) : Prop where
  sl : SlAt 1 (CInt .u64) H q c (ws.map (fun (x : Nat) => (x : Int)))
  w64 : W64 ws
theorem WAt.get {H : CH} {q : Option Addr} {c : Nat} {ws : List Nat} (h : WAt H q c ws) (hp : 0 < ws.length) : ∃ l o os e k, q = some ⟨l, o, none⟩ ∧ l < H.nx ∧ H.ob l = .cells os e k ∧ ∀ i, i < ws.length → os[o + i]? = some (.int .u64 ((ws.getD i 0 : Nat) : Int)) := by
  obtain ⟨l, o, os, e, k, hq, hl, hc, hm, hob, hol, hos, hwf⟩ := h.sl.ints (by simpa using hp)
  refine ⟨l, o, os, e, k, hq, hl, hob, fun i hi => ?_⟩
  rw [hos i (by simpa using hi)]
  simp [List.getD, List.getElem?_eq_getElem hi]
theorem WAt.good {H K : CH} {q : Option Addr} {c : Nat} {ws : List Nat} (h : WAt H q c ws) (hx : HExt H K) : WAt K q c ws := ⟨h.sl.good (CInt.good _) hx, h.w64⟩
theorem wat_of {H : CH} {q : Option Addr} {c : Nat} {ws : List Int} (h : SlAt 1 (CInt .u64) H q c ws) : ∃ us : List Nat, us.length = ws.length ∧ WAt H q c us := by
  have hw : ∀ x ∈ ws, 0 ≤ x ∧ x < 18446744073709551616 := by
    intro x hx
    obtain ⟨i, hi, rfl⟩ := List.getElem_of_mem hx
    obtain ⟨l, o, os, e, kd, hp, hl1, hc, hm, hob, hol, hos, hwf⟩ := h.ints (by omega)
    have := hwf i hi
    rw [List.getD_eq_getElem?_getD, List.getElem?_eq_getElem hi] at this
    simp [Lit.wf, IntKind.min, IntKind.max, IntKind.signed, IntKind.bits] at this
    omega
  refine ⟨ws.map Int.toNat, by simp, ?_, fun w hx => ?_⟩
  · have e : (ws.map Int.toNat).map (fun (x : Nat) => (x : Int)) = ws := by
      rw [List.map_map]
      conv => rhs; rw [← List.map_id ws]
      refine List.map_congr_left fun x hx => ?_
      have := hw x hx
      simp; omega
    rw [e]; exact h
  · obtain ⟨x, hx', rfl⟩ := List.mem_map.1 hx
    have := hw x hx'
    omega
theorem isg_wp {H : CH} {q : Option Addr} {c : Nat} {ws : List Nat} (h : WAt H q c ws) (r : Int) (hr : -9223372036854775808 ≤ r ∧ r ≤ 9223372036854775807) (hl : ws.length ≤ 9223372036854775807) :
    WpF (tblG Try.prog LG GG) 39 [.slice q ws.length c, .int .i64 r] H fun v K => v = .bool (bitI ws r) ∧ K = H := by
  by_cases h0 : 0 ≤ r
  case neg =>
    have hb : bitI ws r = false := by simp [bitI, h0]
    refine wpF_rG (by rfl) (by kernel_rfl) ?_; (conv in (rF _ _).body => reduce); (conv in (rF _ _).res => reduce)
    repeat' (first | (simp (disch := first | omega | (decide +kernel) | (repeat first | assumption | exact HExt.refl _ | refine HExt.set ?_ (by first | omega | (simp only [new_nx, set_nx]; omega)) _ | refine HExt.new ?_ _)) only [↓RD, RU, accW_t, accW_f, isW, ↓putF_get, ↓putF_none, ↓evF_t, ↓evF_c, ↓evF_f, new_nx, set_nx, new_get, set_get, getD_zero, getD_succ, u_not, pop, lop, aop, wop, resL, resV, tupleV, akV, isVal, isCell, Value.cells, ρ0, ρ1, ρ2, ρ3, ρ4, ↓reduceIte, Nat.reduceEqDiff, Nat.reduceAdd, Int.reduceOfNat, Int.reduceNegSucc, reduceCtorEq, ρ5, ρ6, ρ7, ρ8, srcR_c, src_n, src_v, src_s, bnd, lenV, capV, ρ9, ρ10, ρ11, ρ12, ρ13, ρ14, ρ15, ρ16, ρ17, ρ18, ρ19, ρ20, ρ21, ρ22, ρ23, ρ24, Kd.isRo, ρ25, ρ26, bldV, Nat.reduceLeDiff, Int.reduceMul, Int.reduceAdd, Int.reduceSub, Int.reduceToNat, maxLen_eq, zeros_one, appS_some, appV_n, appV_v, appH_t, appH_f, Kd.isEx, ρ27, partV, ρ28, ρ29, hb]) | (with_reducible first | refine condK_dec (fun _ => ?_) fun _ => ?_ | refine grd_dec (fun _ => ?_) fun _ => ?_ | refine egrd_dec (fun _ => ?_) fun _ => ?_))
    all_goals first | rfl | exact ⟨rfl, rfl⟩
  obtain ⟨r, rfl⟩ := Int.eq_ofNat_of_zero_le h0
  have hq1 : (r : Int) / 64 = ((r / 64 : Nat) : Int) := by simp
  have hq2 : (r : Int) % 64 = ((r % 64 : Nat) : Int) := by simp
  have hb : bitI ws (r : Int) = bitW ws r := by simp [bitI]
  rw [hb]
  refine wpF_rG (by rfl) (by kernel_rfl) ?_; (conv in (rF _ _).body => reduce); (conv in (rF _ _).res => reduce)
  by_cases hj : r / 64 < ws.length
  · obtain ⟨l, o, os, e, k, rfl, hl1, hob, hos⟩ := h.get (by omega)
    have hg1 := hos (r / 64) hj
    have h1 := b_shrN (a := ws.getD (r / 64) 0) (k := r % 64) (by omega)
    have h2 := b_and1N (a := ws.getD (r / 64) 0 >>> (r % 64)) (Nat.lt_of_le_of_lt (Nat.shiftRight_le _ _) (h.w64.get _))
    have h3 := bit_dec (w := ws.getD (r / 64) 0) (k := r % 64)
    repeat' (first | (simp (disch := first | omega | (decide +kernel) | (repeat first | assumption | exact HExt.refl _ | refine HExt.set ?_ (by first | omega | (simp only [new_nx, set_nx]; omega)) _ | refine HExt.new ?_ _)) only [↓RD, RU, accW_t, accW_f, isW, ↓putF_get, ↓putF_none, ↓evF_t, ↓evF_c, ↓evF_f, new_nx, set_nx, new_get, set_get, getD_zero, getD_succ, u_not, pop, lop, aop, wop, resL, resV, tupleV, akV, isVal, isCell, Value.cells, ρ0, ρ1, ρ2, ρ3, ρ4, ↓reduceIte, Nat.reduceEqDiff, Nat.reduceAdd, Int.reduceOfNat, Int.reduceNegSucc, reduceCtorEq, ρ5, ρ6, ρ7, ρ8, srcR_c, src_n, src_v, src_s, bnd, lenV, capV, ρ9, ρ10, ρ11, ρ12, ρ13, ρ14, ρ15, ρ16, ρ17, ρ18, ρ19, ρ20, ρ21, ρ22, ρ23, ρ24, Kd.isRo, ρ25, ρ26, bldV, Nat.reduceLeDiff, Int.reduceMul, Int.reduceAdd, Int.reduceSub, Int.reduceToNat, maxLen_eq, zeros_one, appS_some, appV_n, appV_v, appH_t, appH_f, Kd.isEx, ρ27, partV, ρ28, ρ29, hq1, hq2, hob, hg1, h1, h2, h3]) | (with_reducible first | refine condK_dec (fun _ => ?_) fun _ => ?_ | refine grd_dec (fun _ => ?_) fun _ => ?_ | refine egrd_dec (fun _ => ?_) fun _ => ?_))
    all_goals first | rfl | exact ⟨rfl, rfl⟩
  · have h3 : bitW ws r = false := by
      unfold bitW
      rw [List.getD_eq_getElem?_getD, List.getElem?_eq_none (by omega)]; simp
    repeat' (first | (simp (disch := first | omega | (decide +kernel) | (repeat first | assumption | exact HExt.refl _ | refine HExt.set ?_ (by first | omega | (simp only [new_nx, set_nx]; omega)) _ | refine HExt.new ?_ _)) only [↓RD, RU, accW_t, accW_f, isW, ↓putF_get, ↓putF_none, ↓evF_t, ↓evF_c, ↓evF_f, new_nx, set_nx, new_get, set_get, getD_zero, getD_succ, u_not, pop, lop, aop, wop, resL, resV, tupleV, akV, isVal, isCell, Value.cells, ρ0, ρ1, ρ2, ρ3, ρ4, ↓reduceIte, Nat.reduceEqDiff, Nat.reduceAdd, Int.reduceOfNat, Int.reduceNegSucc, reduceCtorEq, ρ5, ρ6, ρ7, ρ8, srcR_c, src_n, src_v, src_s, bnd, lenV, capV, ρ9, ρ10, ρ11, ρ12, ρ13, ρ14, ρ15, ρ16, ρ17, ρ18, ρ19, ρ20, ρ21, ρ22, ρ23, ρ24, Kd.isRo, ρ25, ρ26, bldV, Nat.reduceLeDiff, Int.reduceMul, Int.reduceAdd, Int.reduceSub, Int.reduceToNat, maxLen_eq, zeros_one, appS_some, appV_n, appV_v, appH_t, appH_f, Kd.isEx, ρ27, partV, ρ28, ρ29, hq1, hq2, h3]) | (with_reducible first | refine condK_dec (fun _ => ?_) fun _ => ?_ | refine grd_dec (fun _ => ?_) fun _ => ?_ | refine egrd_dec (fun _ => ?_) fun _ => ?_))
    all_goals first | rfl | exact ⟨rfl, rfl⟩
theorem has_wp {H : CH} {q : Option Addr} {c : Nat} {ws : List Nat} (h : WAt H q c ws) (r : Int) (hr : -9223372036854775808 ≤ r ∧ r ≤ 9223372036854775807) (hl : ws.length ≤ 9223372036854775807) :
    WpF (tblG Try.prog LG GG) 58 [.slice q ws.length c, .int .i64 r] H fun v K => v = .bool (bitI ws r) ∧ K = H := by
  by_cases h0 : 0 ≤ r
  case neg =>
    have hb : bitI ws r = false := by simp [bitI, h0]
    refine wpF_rG (by rfl) (by kernel_rfl) ?_; (conv in (rF _ _).body => reduce); (conv in (rF _ _).res => reduce)
    repeat' (first | (simp (disch := first | omega | (decide +kernel) | (repeat first | assumption | exact HExt.refl _ | refine HExt.set ?_ (by first | omega | (simp only [new_nx, set_nx]; omega)) _ | refine HExt.new ?_ _)) only [↓RD, RU, accW_t, accW_f, isW, ↓putF_get, ↓putF_none, ↓evF_t, ↓evF_c, ↓evF_f, new_nx, set_nx, new_get, set_get, getD_zero, getD_succ, u_not, pop, lop, aop, wop, resL, resV, tupleV, akV, isVal, isCell, Value.cells, ρ0, ρ1, ρ2, ρ3, ρ4, ↓reduceIte, Nat.reduceEqDiff, Nat.reduceAdd, Int.reduceOfNat, Int.reduceNegSucc, reduceCtorEq, ρ5, ρ6, ρ7, ρ8, srcR_c, src_n, src_v, src_s, bnd, lenV, capV, ρ9, ρ10, ρ11, ρ12, ρ13, ρ14, ρ15, ρ16, ρ17, ρ18, ρ19, ρ20, ρ21, ρ22, ρ23, ρ24, Kd.isRo, ρ25, ρ26, bldV, Nat.reduceLeDiff, Int.reduceMul, Int.reduceAdd, Int.reduceSub, Int.reduceToNat, maxLen_eq, zeros_one, appS_some, appV_n, appV_v, appH_t, appH_f, Kd.isEx, ρ27, partV, ρ28, ρ29, hb]) | (with_reducible first | refine condK_dec (fun _ => ?_) fun _ => ?_ | refine grd_dec (fun _ => ?_) fun _ => ?_ | refine egrd_dec (fun _ => ?_) fun _ => ?_))
    all_goals first | rfl | exact ⟨rfl, rfl⟩
  obtain ⟨r, rfl⟩ := Int.eq_ofNat_of_zero_le h0
  have hq1 : (r : Int) / 64 = ((r / 64 : Nat) : Int) := by simp
  have hq2 : (r : Int) % 64 = ((r % 64 : Nat) : Int) := by simp
  have hb : bitI ws (r : Int) = bitW ws r := by simp [bitI]
  rw [hb]
  refine wpF_rG (by rfl) (by kernel_rfl) ?_; (conv in (rF _ _).body => reduce); (conv in (rF _ _).res => reduce)
  by_cases hj : r / 64 < ws.length
  · obtain ⟨l, o, os, e, k, rfl, hl1, hob, hos⟩ := h.get (by omega)
    have hg1 := hos (r / 64) hj
    have h1 := b_shrNi (a := ws.getD (r / 64) 0) (k := r % 64) (by omega)
    have h2 := b_and1N (a := ws.getD (r / 64) 0 >>> (r % 64)) (Nat.lt_of_le_of_lt (Nat.shiftRight_le _ _) (h.w64.get _))
    have h3 := bit_dec (w := ws.getD (r / 64) 0) (k := r % 64)
    repeat' (first | (simp (disch := first | omega | (decide +kernel) | (repeat first | assumption | exact HExt.refl _ | refine HExt.set ?_ (by first | omega | (simp only [new_nx, set_nx]; omega)) _ | refine HExt.new ?_ _)) only [↓RD, RU, accW_t, accW_f, isW, ↓putF_get, ↓putF_none, ↓evF_t, ↓evF_c, ↓evF_f, new_nx, set_nx, new_get, set_get, getD_zero, getD_succ, u_not, pop, lop, aop, wop, resL, resV, tupleV, akV, isVal, isCell, Value.cells, ρ0, ρ1, ρ2, ρ3, ρ4, ↓reduceIte, Nat.reduceEqDiff, Nat.reduceAdd, Int.reduceOfNat, Int.reduceNegSucc, reduceCtorEq, ρ5, ρ6, ρ7, ρ8, srcR_c, src_n, src_v, src_s, bnd, lenV, capV, ρ9, ρ10, ρ11, ρ12, ρ13, ρ14, ρ15, ρ16, ρ17, ρ18, ρ19, ρ20, ρ21, ρ22, ρ23, ρ24, Kd.isRo, ρ25, ρ26, bldV, Nat.reduceLeDiff, Int.reduceMul, Int.reduceAdd, Int.reduceSub, Int.reduceToNat, maxLen_eq, zeros_one, appS_some, appV_n, appV_v, appH_t, appH_f, Kd.isEx, ρ27, partV, ρ28, ρ29, hq1, hq2, hob, hg1, h1, h2, h3]) | (with_reducible first | refine condK_dec (fun _ => ?_) fun _ => ?_ | refine grd_dec (fun _ => ?_) fun _ => ?_ | refine egrd_dec (fun _ => ?_) fun _ => ?_))
    all_goals first | rfl | exact ⟨rfl, rfl⟩
  · have h3 : bitW ws r = false := by
      unfold bitW
      rw [List.getD_eq_getElem?_getD, List.getElem?_eq_none (by omega)]; simp
    repeat' (first | (simp (disch := first | omega | (decide +kernel) | (repeat first | assumption | exact HExt.refl _ | refine HExt.set ?_ (by first | omega | (simp only [new_nx, set_nx]; omega)) _ | refine HExt.new ?_ _)) only [↓RD, RU, accW_t, accW_f, isW, ↓putF_get, ↓putF_none, ↓evF_t, ↓evF_c, ↓evF_f, new_nx, set_nx, new_get, set_get, getD_zero, getD_succ, u_not, pop, lop, aop, wop, resL, resV, tupleV, akV, isVal, isCell, Value.cells, ρ0, ρ1, ρ2, ρ3, ρ4, ↓reduceIte, Nat.reduceEqDiff, Nat.reduceAdd, Int.reduceOfNat, Int.reduceNegSucc, reduceCtorEq, ρ5, ρ6, ρ7, ρ8, srcR_c, src_n, src_v, src_s, bnd, lenV, capV, ρ9, ρ10, ρ11, ρ12, ρ13, ρ14, ρ15, ρ16, ρ17, ρ18, ρ19, ρ20, ρ21, ρ22, ρ23, ρ24, Kd.isRo, ρ25, ρ26, bldV, Nat.reduceLeDiff, Int.reduceMul, Int.reduceAdd, Int.reduceSub, Int.reduceToNat, maxLen_eq, zeros_one, appS_some, appV_n, appV_v, appH_t, appH_f, Kd.isEx, ρ27, partV, ρ28, ρ29, hq1, hq2, h3]) | (with_reducible first | refine condK_dec (fun _ => ?_) fun _ => ?_ | refine grd_dec (fun _ => ?_) fun _ => ?_ | refine egrd_dec (fun _ => ?_) fun _ => ?_))
    all_goals first | rfl | exact ⟨rfl, rfl⟩
theorem isg_iff {H : CH} {q : Option Addr} {c : Nat} {ws : List Nat} (h : WAt H q c ws) {r : Int} (hr : -9223372036854775808 ≤ r ∧ r ≤ 9223372036854775807) (hl : ws.length ≤ 9223372036854775807) {Q : Value → CH → Prop} : WpF (tblG Try.prog LG GG) 39 [.slice q ws.length c, .int .i64 r] H Q ↔ Q (.bool (bitI ws r)) H := wpF_iff (isg_wp h r hr hl)
theorem has_iff {H : CH} {q : Option Addr} {c : Nat} {ws : List Nat} (h : WAt H q c ws) {r : Int} (hr : -9223372036854775808 ≤ r ∧ r ≤ 9223372036854775807) (hl : ws.length ≤ 9223372036854775807) {Q : Value → CH → Prop} : WpF (tblG Try.prog LG GG) 58 [.slice q ws.length c, .int .i64 r] H Q ↔ Q (.bool (bitI ws r)) H := wpF_iff (has_wp h r hr hl)
theorem bit_eq {ws : List Nat} {r : Nat} : bitI ws (r : Int) = bitW ws r := by simp [bitI]
end Can
end Go.Proofs.Ytopnmlonapimjaa
