/- Flow: Is; what a row of ways shows. -/
import Derived.Test.YtapcoeecjlkdgaaFlLvJ
namespace Go.Proofs.Ytapcoeecjlkdgaa
namespace Can
open Go Go.RowKit
set_option linter.unusedSimpArgs false
set_option linter.unusedVariables false
set_option maxRecDepth 4000
theorem b_and1N {a : Nat} (ha : a < 18446744073709551616) : svOf (binOp .and 0 (.int .u64 (a : Int)) (.int .u64 1)) = some (.int .u64 ((a &&& 1 : Nat) : Int)) := by
  have := b_and_u64 (a := (a : Int)) (b := 1) (by omega) (by omega) (by omega) (by omega)
  rw [this]; simp
theorem b_shrN {a k : Nat} (hk : k < 64) : svOf (binOp .shr 0 (.int .u64 (a : Int)) (.int .u64 (k : Int))) = some (.int .u64 ((a >>> k : Nat) : Int)) := by
  rw [b_shr (by omega)]
  have h1 : min ((k : Int).toNat) IntKind.u64.bits = k := by simp [IntKind.bits]; omega
  rw [h1, Nat.shiftRight_eq_div_pow]
  congr 2
  have e : ((2 : Int) ^ k) = ((2 ^ k : Nat) : Int) := by simp
  rw [e, Int.fdiv_eq_ediv_of_nonneg _ (Int.natCast_nonneg _)]
  rfl
theorem bit_dec {w k : Nat} : decide (((w >>> k &&& 1 : Nat) : Int) = 1) = w.testBit k := by
  unfold Nat.testBit
  rw [Nat.and_comm]
  rcases Nat.mod_two_eq_zero_or_one (w >>> k) with h | h
  · have : 1 &&& w >>> k = 0 := by rw [Nat.and_comm, Nat.and_one_is_mod, h]
    rw [this]; rfl
  · have : 1 &&& w >>> k = 1 := by rw [Nat.and_comm, Nat.and_one_is_mod, h]
    rw [this]; rfl
theorem is_wp {H : CH} {b : Nat} {e : Nat} {kd : Kd} {ws : List Nat} {r : Nat} {W c : Nat} (hob : H.ob b = .cells (wordC ws) e kd) (hl : ws.length = W) (hw : W64 ws) (hr : r < 18446744073709551616) :
    WpF (tblG Try.prog LG GG) 14 [.slice (some ⟨b, 0, none⟩) W c, .int .i64 (r : Int)] H fun v K => v = .bool (bitW ws r) ∧ K = H := by
  have hq1 : (r : Int) / 64 = ((r / 64 : Nat) : Int) := by simp
  have hq2 : (r : Int) % 64 = ((r % 64 : Nat) : Int) := by simp
  refine wpF_rG (by rfl) (by kernel_rfl) ?_; (conv in (rF _ _).body => reduce); (conv in (rF _ _).res => reduce)
  by_cases h : r / 64 < W
  · have hg1 := wordC_get (ws := ws) (i := r / 64) (by omega)
    have h1 := b_shrN (a := ws.getD (r / 64) 0) (k := r % 64) (by omega)
    have h2 := b_and1N (a := ws.getD (r / 64) 0 >>> (r % 64)) (Nat.lt_of_le_of_lt (Nat.shiftRight_le _ _) (hw.get _))
    have h3 := bit_dec (w := ws.getD (r / 64) 0) (k := r % 64)
    repeat' (first | (simp (disch := first | omega | (decide +kernel) | (repeat (first | assumption | exact HExt.refl _ | (refine HExt.set ?_ (by first | omega | (simp only [new_nx, set_nx]; omega)) _) | (refine HExt.new ?_ _)))) only [↓RD, RU, accW_t, accW_f, isW, ↓putF_get, ↓putF_none, ↓evF_t, ↓evF_c, ↓evF_f, new_nx, set_nx, new_get, set_get, getD_zero, getD_succ, u_not, pop, lop, aop, wop, resL, resV, tupleV, akV, isVal, isCell, Value.cells, List.map_cons, List.map_nil, Bool.not_true, Bool.not_false, Option.map_some, ↓reduceIte, Nat.reduceEqDiff, Nat.reduceAdd, Int.reduceOfNat, Int.reduceNegSucc, reduceCtorEq, List.getElem?_cons_zero, List.getElem?_cons_succ, List.length_cons, List.length_nil, srcR_c, src_n, src_v, src_s, bnd, lenV, capV, Option.isSome_none, Option.isNone_none, Option.isSome_some, Option.isNone_some, Bool.true_or, Bool.false_or, List.take_succ_cons, List.take_zero, List.drop_succ_cons, List.drop_zero, List.cons_append, List.nil_append, List.drop_nil, List.all_cons, List.all_nil, Bool.true_and, Kd.isRo, List.size_toArray, List.toList_toArray, bldV, Nat.reduceLeDiff, Int.reduceMul, Int.reduceAdd, Int.reduceSub, Int.reduceToNat, maxLen_eq, zeros_one, appS_some, appV_n, appV_v, appH_t, appH_f, Kd.isEx, Bool.false_and, partV, Nat.add_zero, Int.toNat_natCast, hq1, hq2, hob, hg1, h1, h2, h3]) | (with_reducible refine condK_dec (fun _ => ?_) (fun _ => ?_)) | (with_reducible refine grd_dec (fun _ => ?_) (fun _ => ?_)) | (with_reducible refine egrd_dec (fun _ => ?_) (fun _ => ?_)))
    all_goals first | rfl | trace_state
  · have h3 : bitW ws r = false := by
      unfold bitW
      rw [List.getD_eq_getElem?_getD, List.getElem?_eq_none (by omega)]; simp
    repeat' (first | (simp (disch := first | omega | (decide +kernel) | (repeat (first | assumption | exact HExt.refl _ | (refine HExt.set ?_ (by first | omega | (simp only [new_nx, set_nx]; omega)) _) | (refine HExt.new ?_ _)))) only [↓RD, RU, accW_t, accW_f, isW, ↓putF_get, ↓putF_none, ↓evF_t, ↓evF_c, ↓evF_f, new_nx, set_nx, new_get, set_get, getD_zero, getD_succ, u_not, pop, lop, aop, wop, resL, resV, tupleV, akV, isVal, isCell, Value.cells, List.map_cons, List.map_nil, Bool.not_true, Bool.not_false, Option.map_some, ↓reduceIte, Nat.reduceEqDiff, Nat.reduceAdd, Int.reduceOfNat, Int.reduceNegSucc, reduceCtorEq, List.getElem?_cons_zero, List.getElem?_cons_succ, List.length_cons, List.length_nil, srcR_c, src_n, src_v, src_s, bnd, lenV, capV, Option.isSome_none, Option.isNone_none, Option.isSome_some, Option.isNone_some, Bool.true_or, Bool.false_or, List.take_succ_cons, List.take_zero, List.drop_succ_cons, List.drop_zero, List.cons_append, List.nil_append, List.drop_nil, List.all_cons, List.all_nil, Bool.true_and, Kd.isRo, List.size_toArray, List.toList_toArray, bldV, Nat.reduceLeDiff, Int.reduceMul, Int.reduceAdd, Int.reduceSub, Int.reduceToNat, maxLen_eq, zeros_one, appS_some, appV_n, appV_v, appH_t, appH_f, Kd.isEx, Bool.false_and, partV, Nat.add_zero, Int.toNat_natCast, hq1, hq2, hob, h3]) | (with_reducible refine condK_dec (fun _ => ?_) (fun _ => ?_)) | (with_reducible refine grd_dec (fun _ => ?_) (fun _ => ?_)) | (with_reducible refine egrd_dec (fun _ => ?_) (fun _ => ?_)))
    all_goals first | rfl | trace_state
/-- On a row of ways: what is live here and not yet written was live at its beginning. -/
def PthI (F : Fn') (from' at' : Nat) (bs : List Bool) : Prop := ∀ r : Nat, Lv F at' r → bs[r]? = some false → Lv F from' r
theorem PthI.step {F : Fn'} {from' at' : Nat} {bs cs : List Bool} (h : PthI F from' at' bs) {p : Int × List Int} (hp : p ∈ waysF F at') (hc : ∀ r : Nat, cs[r]? = some false → bs[r]? = some false ∧ (r : Int) ∉ p.2) : PthI F from' p.1.toNat cs := fun r hl hr => by
  obtain ⟨h1, h2⟩ := hc r hr
  exact h r (.step hp hl h2) h1
end Can
end Go.Proofs.Ytapcoeecjlkdgaa
