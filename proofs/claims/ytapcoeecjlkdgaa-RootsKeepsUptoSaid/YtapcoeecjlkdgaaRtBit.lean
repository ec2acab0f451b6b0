/- Roots: Has, Is, Count of both sides; the law RootsBits answers true. -/
import Derived.Test.YtapcoeecjlkdgaaRtPc
namespace Go.Proofs.Ytapcoeecjlkdgaa
namespace Can
open Go Go.RowKit
set_option linter.unusedSimpArgs false
set_option linter.unusedVariables false
set_option maxRecDepth 4000
theorem b_shrNi {a k : Nat} (hk : k < 64) : svOf (binOp .shr 0 (.int .u64 (a : Int)) (.int .i64 (k : Int))) = some (.int .u64 ((a >>> k : Nat) : Int)) := by
  rw [b_shr (by omega)]
  have h1 : min ((k : Int).toNat) IntKind.u64.bits = k := by simp [IntKind.bits]; omega
  rw [h1, Nat.shiftRight_eq_div_pow]
  congr 2
  have e : ((2 : Int) ^ k) = ((2 ^ k : Nat) : Int) := by simp
  rw [e, Int.fdiv_eq_ediv_of_nonneg _ (Int.natCast_nonneg _)]
  rfl
/-- Is a bit set? Of any number. -/
def bitI (ws : List Nat) (r : Int) : Bool := decide (0 ≤ r) && bitW ws r.toNat
def nats (ws : List Int) : List Nat := ws.map Int.toNat
theorem nats_len {ws : List Int} : (nats ws).length = ws.length := by simp [nats]
/-- A list of words, as numbers. -/
structure WAt (H : CH) (q : Option Addr) (c : Nat) (ws : List Nat) : Prop where
  sl : SlAt 1 (CInt .u64) H q c (ws.map (fun (x : Nat) => (x : Int)))
  w64 : W64 ws
theorem WAt.get {H : CH} {q : Option Addr} {c : Nat} {ws : List Nat} (h : WAt H q c ws) (hp : 0 < ws.length) : ∃ l o os e k, q = some ⟨l, o, none⟩ ∧ l < H.nx ∧ H.ob l = .cells os e k ∧ ∀ i, i < ws.length → os[o + i]? = some (.int .u64 ((ws.getD i 0 : Nat) : Int)) := by
  obtain ⟨l, o, os, e, k, hq, hl, hc, hm, hob, hol, hos, hwf⟩ := h.sl.ints (by simpa using hp)
  refine ⟨l, o, os, e, k, hq, hl, hob, fun i hi => ?_⟩
  rw [hos i (by simpa using hi)]
  simp [List.getD, List.getElem?_eq_getElem hi]
theorem WAt.good {H K : CH} {q : Option Addr} {c : Nat} {ws : List Nat} (h : WAt H q c ws) (hx : HExt H K) : WAt K q c ws := ⟨h.sl.good (CInt.good _) hx, h.w64⟩
theorem wat_of {H : CH} {q : Option Addr} {c : Nat} {ws : List Int} (h : SlAt 1 (CInt .u64) H q c ws) : ∃ us : List Nat, us.length = ws.length ∧ WAt H q c us := by
  have hw : ∀ x ∈ ws, 0 ≤ x ∧ x < 18446744073709551616 := by
    intro x hx
    obtain ⟨i, hi, rfl⟩ := List.getElem_of_mem hx
    obtain ⟨l, o, os, e, kd, hp, hl1, hc, hm, hob, hol, hos, hwf⟩ := h.ints (by omega)
    have := hwf i hi
    rw [List.getD_eq_getElem?_getD, List.getElem?_eq_getElem hi] at this
    simp [Lit.wf, IntKind.min, IntKind.max, IntKind.signed, IntKind.bits] at this
    omega
  refine ⟨ws.map Int.toNat, by simp, ?_, fun w hx => ?_⟩
  · have e : (ws.map Int.toNat).map (fun (x : Nat) => (x : Int)) = ws := by
      rw [List.map_map]
      conv => rhs; rw [← List.map_id ws]
      refine List.map_congr_left fun x hx => ?_
      have := hw x hx
      simp; omega
    rw [e]; exact h
  · obtain ⟨x, hx', rfl⟩ := List.mem_map.1 hx
    have := hw x hx'
    omega
theorem isg_wp {H : CH} {q : Option Addr} {c : Nat} {ws : List Nat} (h : WAt H q c ws) (r : Int) (hr : -9223372036854775808 ≤ r ∧ r ≤ 9223372036854775807) (hl : ws.length ≤ 9223372036854775807) :
    WpF (tblG Try.prog LG GG) 14 [.slice q ws.length c, .int .i64 r] H fun v K => v = .bool (bitI ws r) ∧ K = H := by
  by_cases h0 : 0 ≤ r
  case neg =>
    have hb : bitI ws r = false := by simp [bitI, h0]
    refine wpF_rG (by rfl) (by kernel_rfl) ?_; (conv in (rF _ _).body => reduce); (conv in (rF _ _).res => reduce)
    repeat' (first | (simp (disch := first | omega | (decide +kernel) | (repeat (first | assumption | exact HExt.refl _ | (refine HExt.set ?_ (by first | omega | (simp only [new_nx, set_nx]; omega)) _) | (refine HExt.new ?_ _)))) only [↓RD, RU, accW_t, accW_f, isW, ↓putF_get, ↓putF_none, ↓evF_t, ↓evF_c, ↓evF_f, new_nx, set_nx, new_get, set_get, getD_zero, getD_succ, u_not, pop, lop, aop, wop, resL, resV, tupleV, akV, isVal, isCell, Value.cells, List.map_cons, List.map_nil, Bool.not_true, Bool.not_false, Option.map_some, ↓reduceIte, Nat.reduceEqDiff, Nat.reduceAdd, Int.reduceOfNat, Int.reduceNegSucc, reduceCtorEq, List.getElem?_cons_zero, List.getElem?_cons_succ, List.length_cons, List.length_nil, srcR_c, src_n, src_v, src_s, bnd, lenV, capV, Option.isSome_none, Option.isNone_none, Option.isSome_some, Option.isNone_some, Bool.true_or, Bool.false_or, List.take_succ_cons, List.take_zero, List.drop_succ_cons, List.drop_zero, List.cons_append, List.nil_append, List.drop_nil, List.all_cons, List.all_nil, Bool.true_and, Kd.isRo, List.size_toArray, List.toList_toArray, bldV, Nat.reduceLeDiff, Int.reduceMul, Int.reduceAdd, Int.reduceSub, Int.reduceToNat, maxLen_eq, zeros_one, appS_some, appV_n, appV_v, appH_t, appH_f, Kd.isEx, Bool.false_and, partV, Nat.add_zero, Int.toNat_natCast, hb]) | (with_reducible refine condK_dec (fun _ => ?_) (fun _ => ?_)) | (with_reducible refine grd_dec (fun _ => ?_) (fun _ => ?_)) | (with_reducible refine egrd_dec (fun _ => ?_) (fun _ => ?_)))
    all_goals first | rfl | exact ⟨rfl, rfl⟩
  obtain ⟨r, rfl⟩ := Int.eq_ofNat_of_zero_le h0
  have hq1 : (r : Int) / 64 = ((r / 64 : Nat) : Int) := by simp
  have hq2 : (r : Int) % 64 = ((r % 64 : Nat) : Int) := by simp
  have hb : bitI ws (r : Int) = bitW ws r := by simp [bitI]
  rw [hb]
  refine wpF_rG (by rfl) (by kernel_rfl) ?_; (conv in (rF _ _).body => reduce); (conv in (rF _ _).res => reduce)
  by_cases hj : r / 64 < ws.length
  · obtain ⟨l, o, os, e, k, rfl, hl1, hob, hos⟩ := h.get (by omega)
    have hg1 := hos (r / 64) hj
    have h1 := b_shrN (a := ws.getD (r / 64) 0) (k := r % 64) (by omega)
    have h2 := b_and1N (a := ws.getD (r / 64) 0 >>> (r % 64)) (Nat.lt_of_le_of_lt (Nat.shiftRight_le _ _) (h.w64.get _))
    have h3 := bit_dec (w := ws.getD (r / 64) 0) (k := r % 64)
    repeat' (first | (simp (disch := first | omega | (decide +kernel) | (repeat (first | assumption | exact HExt.refl _ | (refine HExt.set ?_ (by first | omega | (simp only [new_nx, set_nx]; omega)) _) | (refine HExt.new ?_ _)))) only [↓RD, RU, accW_t, accW_f, isW, ↓putF_get, ↓putF_none, ↓evF_t, ↓evF_c, ↓evF_f, new_nx, set_nx, new_get, set_get, getD_zero, getD_succ, u_not, pop, lop, aop, wop, resL, resV, tupleV, akV, isVal, isCell, Value.cells, List.map_cons, List.map_nil, Bool.not_true, Bool.not_false, Option.map_some, ↓reduceIte, Nat.reduceEqDiff, Nat.reduceAdd, Int.reduceOfNat, Int.reduceNegSucc, reduceCtorEq, List.getElem?_cons_zero, List.getElem?_cons_succ, List.length_cons, List.length_nil, srcR_c, src_n, src_v, src_s, bnd, lenV, capV, Option.isSome_none, Option.isNone_none, Option.isSome_some, Option.isNone_some, Bool.true_or, Bool.false_or, List.take_succ_cons, List.take_zero, List.drop_succ_cons, List.drop_zero, List.cons_append, List.nil_append, List.drop_nil, List.all_cons, List.all_nil, Bool.true_and, Kd.isRo, List.size_toArray, List.toList_toArray, bldV, Nat.reduceLeDiff, Int.reduceMul, Int.reduceAdd, Int.reduceSub, Int.reduceToNat, maxLen_eq, zeros_one, appS_some, appV_n, appV_v, appH_t, appH_f, Kd.isEx, Bool.false_and, partV, Nat.add_zero, Int.toNat_natCast, hq1, hq2, hob, hg1, h1, h2, h3]) | (with_reducible refine condK_dec (fun _ => ?_) (fun _ => ?_)) | (with_reducible refine grd_dec (fun _ => ?_) (fun _ => ?_)) | (with_reducible refine egrd_dec (fun _ => ?_) (fun _ => ?_)))
    all_goals first | rfl | exact ⟨rfl, rfl⟩
  · have h3 : bitW ws r = false := by
      unfold bitW
      rw [List.getD_eq_getElem?_getD, List.getElem?_eq_none (by omega)]; simp
    repeat' (first | (simp (disch := first | omega | (decide +kernel) | (repeat (first | assumption | exact HExt.refl _ | (refine HExt.set ?_ (by first | omega | (simp only [new_nx, set_nx]; omega)) _) | (refine HExt.new ?_ _)))) only [↓RD, RU, accW_t, accW_f, isW, ↓putF_get, ↓putF_none, ↓evF_t, ↓evF_c, ↓evF_f, new_nx, set_nx, new_get, set_get, getD_zero, getD_succ, u_not, pop, lop, aop, wop, resL, resV, tupleV, akV, isVal, isCell, Value.cells, List.map_cons, List.map_nil, Bool.not_true, Bool.not_false, Option.map_some, ↓reduceIte, Nat.reduceEqDiff, Nat.reduceAdd, Int.reduceOfNat, Int.reduceNegSucc, reduceCtorEq, List.getElem?_cons_zero, List.getElem?_cons_succ, List.length_cons, List.length_nil, srcR_c, src_n, src_v, src_s, bnd, lenV, capV, Option.isSome_none, Option.isNone_none, Option.isSome_some, Option.isNone_some, Bool.true_or, Bool.false_or, List.take_succ_cons, List.take_zero, List.drop_succ_cons, List.drop_zero, List.cons_append, List.nil_append, List.drop_nil, List.all_cons, List.all_nil, Bool.true_and, Kd.isRo, List.size_toArray, List.toList_toArray, bldV, Nat.reduceLeDiff, Int.reduceMul, Int.reduceAdd, Int.reduceSub, Int.reduceToNat, maxLen_eq, zeros_one, appS_some, appV_n, appV_v, appH_t, appH_f, Kd.isEx, Bool.false_and, partV, Nat.add_zero, Int.toNat_natCast, hq1, hq2, h3]) | (with_reducible refine condK_dec (fun _ => ?_) (fun _ => ?_)) | (with_reducible refine grd_dec (fun _ => ?_) (fun _ => ?_)) | (with_reducible refine egrd_dec (fun _ => ?_) (fun _ => ?_)))
    all_goals first | rfl | exact ⟨rfl, rfl⟩
theorem has_wp {H : CH} {q : Option Addr} {c : Nat} {ws : List Nat} (h : WAt H q c ws) (r : Int) (hr : -9223372036854775808 ≤ r ∧ r ≤ 9223372036854775807) (hl : ws.length ≤ 9223372036854775807) :
    WpF (tblG Try.prog LG GG) 13 [.slice q ws.length c, .int .i64 r] H fun v K => v = .bool (bitI ws r) ∧ K = H := by
  by_cases h0 : 0 ≤ r
  case neg =>
    have hb : bitI ws r = false := by simp [bitI, h0]
    refine wpF_rG (by rfl) (by kernel_rfl) ?_; (conv in (rF _ _).body => reduce); (conv in (rF _ _).res => reduce)
    repeat' (first | (simp (disch := first | omega | (decide +kernel) | (repeat (first | assumption | exact HExt.refl _ | (refine HExt.set ?_ (by first | omega | (simp only [new_nx, set_nx]; omega)) _) | (refine HExt.new ?_ _)))) only [↓RD, RU, accW_t, accW_f, isW, ↓putF_get, ↓putF_none, ↓evF_t, ↓evF_c, ↓evF_f, new_nx, set_nx, new_get, set_get, getD_zero, getD_succ, u_not, pop, lop, aop, wop, resL, resV, tupleV, akV, isVal, isCell, Value.cells, List.map_cons, List.map_nil, Bool.not_true, Bool.not_false, Option.map_some, ↓reduceIte, Nat.reduceEqDiff, Nat.reduceAdd, Int.reduceOfNat, Int.reduceNegSucc, reduceCtorEq, List.getElem?_cons_zero, List.getElem?_cons_succ, List.length_cons, List.length_nil, srcR_c, src_n, src_v, src_s, bnd, lenV, capV, Option.isSome_none, Option.isNone_none, Option.isSome_some, Option.isNone_some, Bool.true_or, Bool.false_or, List.take_succ_cons, List.take_zero, List.drop_succ_cons, List.drop_zero, List.cons_append, List.nil_append, List.drop_nil, List.all_cons, List.all_nil, Bool.true_and, Kd.isRo, List.size_toArray, List.toList_toArray, bldV, Nat.reduceLeDiff, Int.reduceMul, Int.reduceAdd, Int.reduceSub, Int.reduceToNat, maxLen_eq, zeros_one, appS_some, appV_n, appV_v, appH_t, appH_f, Kd.isEx, Bool.false_and, partV, Nat.add_zero, Int.toNat_natCast, hb]) | (with_reducible refine condK_dec (fun _ => ?_) (fun _ => ?_)) | (with_reducible refine grd_dec (fun _ => ?_) (fun _ => ?_)) | (with_reducible refine egrd_dec (fun _ => ?_) (fun _ => ?_)))
    all_goals first | rfl | exact ⟨rfl, rfl⟩
  obtain ⟨r, rfl⟩ := Int.eq_ofNat_of_zero_le h0
  have hq1 : (r : Int) / 64 = ((r / 64 : Nat) : Int) := by simp
  have hq2 : (r : Int) % 64 = ((r % 64 : Nat) : Int) := by simp
  have hb : bitI ws (r : Int) = bitW ws r := by simp [bitI]
  rw [hb]
  refine wpF_rG (by rfl) (by kernel_rfl) ?_; (conv in (rF _ _).body => reduce); (conv in (rF _ _).res => reduce)
  by_cases hj : r / 64 < ws.length
  · obtain ⟨l, o, os, e, k, rfl, hl1, hob, hos⟩ := h.get (by omega)
    have hg1 := hos (r / 64) hj
    have h1 := b_shrNi (a := ws.getD (r / 64) 0) (k := r % 64) (by omega)
    have h2 := b_and1N (a := ws.getD (r / 64) 0 >>> (r % 64)) (Nat.lt_of_le_of_lt (Nat.shiftRight_le _ _) (h.w64.get _))
    have h3 := bit_dec (w := ws.getD (r / 64) 0) (k := r % 64)
    repeat' (first | (simp (disch := first | omega | (decide +kernel) | (repeat (first | assumption | exact HExt.refl _ | (refine HExt.set ?_ (by first | omega | (simp only [new_nx, set_nx]; omega)) _) | (refine HExt.new ?_ _)))) only [↓RD, RU, accW_t, accW_f, isW, ↓putF_get, ↓putF_none, ↓evF_t, ↓evF_c, ↓evF_f, new_nx, set_nx, new_get, set_get, getD_zero, getD_succ, u_not, pop, lop, aop, wop, resL, resV, tupleV, akV, isVal, isCell, Value.cells, List.map_cons, List.map_nil, Bool.not_true, Bool.not_false, Option.map_some, ↓reduceIte, Nat.reduceEqDiff, Nat.reduceAdd, Int.reduceOfNat, Int.reduceNegSucc, reduceCtorEq, List.getElem?_cons_zero, List.getElem?_cons_succ, List.length_cons, List.length_nil, srcR_c, src_n, src_v, src_s, bnd, lenV, capV, Option.isSome_none, Option.isNone_none, Option.isSome_some, Option.isNone_some, Bool.true_or, Bool.false_or, List.take_succ_cons, List.take_zero, List.drop_succ_cons, List.drop_zero, List.cons_append, List.nil_append, List.drop_nil, List.all_cons, List.all_nil, Bool.true_and, Kd.isRo, List.size_toArray, List.toList_toArray, bldV, Nat.reduceLeDiff, Int.reduceMul, Int.reduceAdd, Int.reduceSub, Int.reduceToNat, maxLen_eq, zeros_one, appS_some, appV_n, appV_v, appH_t, appH_f, Kd.isEx, Bool.false_and, partV, Nat.add_zero, Int.toNat_natCast, hq1, hq2, hob, hg1, h1, h2, h3]) | (with_reducible refine condK_dec (fun _ => ?_) (fun _ => ?_)) | (with_reducible refine grd_dec (fun _ => ?_) (fun _ => ?_)) | (with_reducible refine egrd_dec (fun _ => ?_) (fun _ => ?_)))
    all_goals first | rfl | exact ⟨rfl, rfl⟩
  · have h3 : bitW ws r = false := by
      unfold bitW
      rw [List.getD_eq_getElem?_getD, List.getElem?_eq_none (by omega)]; simp
    repeat' (first | (simp (disch := first | omega | (decide +kernel) | (repeat (first | assumption | exact HExt.refl _ | (refine HExt.set ?_ (by first | omega | (simp only [new_nx, set_nx]; omega)) _) | (refine HExt.new ?_ _)))) only [↓RD, RU, accW_t, accW_f, isW, ↓putF_get, ↓putF_none, ↓evF_t, ↓evF_c, ↓evF_f, new_nx, set_nx, new_get, set_get, getD_zero, getD_succ, u_not, pop, lop, aop, wop, resL, resV, tupleV, akV, isVal, isCell, Value.cells, List.map_cons, List.map_nil, Bool.not_true, Bool.not_false, Option.map_some, ↓reduceIte, Nat.reduceEqDiff, Nat.reduceAdd, Int.reduceOfNat, Int.reduceNegSucc, reduceCtorEq, List.getElem?_cons_zero, List.getElem?_cons_succ, List.length_cons, List.length_nil, srcR_c, src_n, src_v, src_s, bnd, lenV, capV, Option.isSome_none, Option.isNone_none, Option.isSome_some, Option.isNone_some, Bool.true_or, Bool.false_or, List.take_succ_cons, List.take_zero, List.drop_succ_cons, List.drop_zero, List.cons_append, List.nil_append, List.drop_nil, List.all_cons, List.all_nil, Bool.true_and, Kd.isRo, List.size_toArray, List.toList_toArray, bldV, Nat.reduceLeDiff, Int.reduceMul, Int.reduceAdd, Int.reduceSub, Int.reduceToNat, maxLen_eq, zeros_one, appS_some, appV_n, appV_v, appH_t, appH_f, Kd.isEx, Bool.false_and, partV, Nat.add_zero, Int.toNat_natCast, hq1, hq2, h3]) | (with_reducible refine condK_dec (fun _ => ?_) (fun _ => ?_)) | (with_reducible refine grd_dec (fun _ => ?_) (fun _ => ?_)) | (with_reducible refine egrd_dec (fun _ => ?_) (fun _ => ?_)))
    all_goals first | rfl | exact ⟨rfl, rfl⟩
theorem isg_iff {H : CH} {q : Option Addr} {c : Nat} {ws : List Nat} (h : WAt H q c ws) {r : Int} (hr : -9223372036854775808 ≤ r ∧ r ≤ 9223372036854775807) (hl : ws.length ≤ 9223372036854775807) {Q : Value → CH → Prop} : WpF (tblG Try.prog LG GG) 14 [.slice q ws.length c, .int .i64 r] H Q ↔ Q (.bool (bitI ws r)) H := wpF_iff (isg_wp h r hr hl)
theorem has_iff {H : CH} {q : Option Addr} {c : Nat} {ws : List Nat} (h : WAt H q c ws) {r : Int} (hr : -9223372036854775808 ≤ r ∧ r ≤ 9223372036854775807) (hl : ws.length ≤ 9223372036854775807) {Q : Value → CH → Prop} : WpF (tblG Try.prog LG GG) 13 [.slice q ws.length c, .int .i64 r] H Q ↔ Q (.bool (bitI ws r)) H := wpF_iff (has_wp h r hr hl)
theorem b_andN {a b : Nat} (ha : a < 18446744073709551616) (hb : b < 18446744073709551616) : svOf (binOp .and 0 (.int .u64 (a : Int)) (.int .u64 (b : Int))) = some (.int .u64 ((a &&& b : Nat) : Int)) := by
  rw [b_and_u64 (by omega) (by omega) (by omega) (by omega)]; simp
theorem b_addN {a b : Nat} (h : a + b < 18446744073709551616) : svOf (binOp .add 0 (.int .u64 (a : Int)) (.int .u64 (b : Int))) = some (.int .u64 ((a + b : Nat) : Int)) := by
  rw [b_add, w_u64 (by omega) (by omega)]; simp
theorem b_shrD {a k d : Nat} (hk : k < 64) (hd : 2 ^ k = d) : svOf (binOp .shr 0 (.int .u64 (a : Int)) (.int .u64 (k : Int))) = some (.int .u64 ((a / d : Nat) : Int)) := by
  rw [b_shrN hk, Nat.shiftRight_eq_div_pow, hd]
theorem b_and127 {a : Nat} (ha : a < 9223372036854775808) : svOf (binOp .and 0 (.int .i64 (a : Int)) (.int .i64 127)) = some (.int .i64 ((a % 128 : Nat) : Int)) := by
  rw [b_and]
  have e1 : BitVec.ofInt IntKind.i64.bits (a : Int) = BitVec.ofNat 64 a := by simp [IntKind.bits]
  have e2 : BitVec.ofInt IntKind.i64.bits (127 : Int) = BitVec.ofNat 64 127 := by rfl
  rw [e1, e2]
  have e3 : (BitVec.ofNat 64 a &&& BitVec.ofNat 64 127).toNat = a % 128 := by
    rw [BitVec.toNat_and, BitVec.toNat_ofNat, BitVec.toNat_ofNat, Nat.mod_eq_of_lt (show a < 2 ^ 64 by omega)]
    exact Nat.and_two_pow_sub_one_eq_mod a 7
  congr 2
  have : (BitVec.ofNat 64 a &&& BitVec.ofNat 64 127).toNat = a % 128 := e3
  show IntKind.i64.wrap (((BitVec.ofNat 64 a &&& BitVec.ofNat 64 127).toNat : Nat) : Int) = _
  rw [this, w_i64 (by omega) (by omega)]
theorem ones_wp {H : CH} (x : Nat) (hx : x < 18446744073709551616) :
    WpF (tblG Try.prog LG GG) 30 [.int .u64 (x : Int)] H fun v K => v = .int .i64 ((pcR 64 x : Nat) : Int) ∧ K = H := by
  obtain ⟨x1, h1⟩ : ∃ x1, x1 = (x / 2 &&& 6148914691236517205) + (x &&& 6148914691236517205) := ⟨_, rfl⟩
  obtain ⟨x2, h2⟩ : ∃ x2, x2 = (x1 / 4 &&& 3689348814741910323) + (x1 &&& 3689348814741910323) := ⟨_, rfl⟩
  obtain ⟨x3, h3⟩ : ∃ x3, x3 = (x2 / 16 + x2) &&& 1085102592571150095 := ⟨_, rfl⟩
  obtain ⟨x4, h4⟩ : ∃ x4, x4 = x3 + x3 / 256 := ⟨_, rfl⟩
  obtain ⟨x5, h5⟩ : ∃ x5, x5 = x4 + x4 / 65536 := ⟨_, rfl⟩
  obtain ⟨x6, h6⟩ : ∃ x6, x6 = x5 + x5 / 4294967296 := ⟨_, rfl⟩
  have l1 : x / 2 &&& 6148914691236517205 ≤ 6148914691236517205 := Nat.and_le_right
  have l1' : x &&& 6148914691236517205 ≤ 6148914691236517205 := Nat.and_le_right
  have l2 : x1 / 4 &&& 3689348814741910323 ≤ 3689348814741910323 := Nat.and_le_right
  have l2' : x1 &&& 3689348814741910323 ≤ 3689348814741910323 := Nat.and_le_right
  have l3 : (x2 / 16 + x2) &&& 1085102592571150095 ≤ 1085102592571150095 := Nat.and_le_right
  have hr := ones_ok hx h1 h2 h3 h4 h5 h6
  have a1 := b_shrD (a := x) (k := 1) (d := 2) (by decide) rfl
  have a2 := b_andN (a := x / 2) (b := 6148914691236517205) (by omega) (by omega)
  have a3 := b_andN (a := x) (b := 6148914691236517205) (by omega) (by omega)
  have a4 := b_addN (a := x / 2 &&& 6148914691236517205) (b := x &&& 6148914691236517205) (by omega)
  rw [← h1] at a4
  have b1 := b_shrD (a := x1) (k := 2) (d := 4) (by decide) rfl
  have b2 := b_andN (a := x1 / 4) (b := 3689348814741910323) (by omega) (by omega)
  have b3 := b_andN (a := x1) (b := 3689348814741910323) (by omega) (by omega)
  have b4 := b_addN (a := x1 / 4 &&& 3689348814741910323) (b := x1 &&& 3689348814741910323) (by omega)
  rw [← h2] at b4
  have c1 := b_shrD (a := x2) (k := 4) (d := 16) (by decide) rfl
  have c2 := b_addN (a := x2 / 16) (b := x2) (by omega)
  have c3 := b_andN (a := x2 / 16 + x2) (b := 1085102592571150095) (by omega) (by omega)
  rw [← h3] at c3
  have d1 := b_shrD (a := x3) (k := 8) (d := 256) (by decide) rfl
  have d2 := b_addN (a := x3) (b := x3 / 256) (by omega)
  rw [← h4] at d2
  have e1 := b_shrD (a := x4) (k := 16) (d := 65536) (by decide) rfl
  have e2 := b_addN (a := x4) (b := x4 / 65536) (by omega)
  rw [← h5] at e2
  have g1 := b_shrD (a := x5) (k := 32) (d := 4294967296) (by decide) rfl
  have g2 := b_addN (a := x5) (b := x5 / 4294967296) (by omega)
  rw [← h6] at g2
  have i1 := b_and127 (a := x6) (by omega)
  rw [hr] at i1
  have hn6 : x6 < 9223372036854775808 := by omega
  clear hr h1 h2 h3 h4 h5 h6 l1 l1' l2 l2' l3
  simp only [Int.cast_ofNat_Int] at a1 a2 a3 b1 b2 b3 c1 c3 d1 e1 g1
  refine wpF_rG (by rfl) (by kernel_rfl) ?_; (conv in (rF _ _).body => reduce); (conv in (rF _ _).res => reduce)
  repeat' (first | (simp (disch := first | omega | (decide +kernel) | (repeat (first | assumption | exact HExt.refl _ | (refine HExt.set ?_ (by first | omega | (simp only [new_nx, set_nx]; omega)) _) | (refine HExt.new ?_ _)))) only [↓r_seq, ↓r_block, ↓seqK_n, ↓seqK_r, ↓seqK_e, ↓blockK_n, ↓blockK_r, ↓blockK_e, ↓loopI_n, ↓loopI_r, ↓loopI_e, ↓funK_n, ↓funK_r, ↓r_reg, ↓r_drw, ↓r_cond, ↓condK_t, ↓condK_f, ↓i_cons, ↓eitemK, ↓e_nil, ↓e_cons, ↓e_grd, ↓egrd_tt, ↓egrd_ff, ↓egrd_tf, ↓egrd_ft, ↓egrd_s, ↓drwK, ↓r_drw2, ↓chk_nil, ↓chk_n, ↓chk_g, agL, agV_tt, agV_ff, agV_tf, agV_ft, agV_s, agE, accW_t, accW_f, isW, ↓i_grd, ↓grd_tt, ↓grd_ff, ↓grd_tf, ↓grd_ft, ↓grd_s, ↓itemK, ↓o_p, ↓o_l, ↓o_a, ↓o_w, ↓o_call, ↓o_callv, ↓callvK_f, ↓callvK_y, ↓r_range, ↓rangeV_f, ↓putF_get, ↓putF_none, ↓evF_t, ↓evF_c, ↓evF_f, new_nx, set_nx, new_get, set_get, optV_some, optW_some, optA_some, finK_some, ↓wpI_nil, ↓wpR_skip, ↓wpR_exit, ↓wpR_ret, getD_zero, getD_succ, b_sub, b_mul, b_quo, b_rem, b_eql, b_neq, b_lss, b_leq, b_gtr, b_geq, u_not, w_i64, w_u64, w_u8, t_div, t_mod, pop, lop, aop, wop, resL, resV, tupleV, akV, isVal, isCell, Value.cells, List.map_cons, List.map_nil, Bool.not_true, Bool.not_false, Option.map_some, ↓reduceIte, Nat.reduceEqDiff, Nat.reduceAdd, Int.reduceOfNat, Int.reduceNegSucc, decide_true, decide_false, reduceCtorEq, List.getElem?_cons_zero, List.getElem?_cons_succ, List.length_cons, List.length_nil, setc_0, setc_s, srcR_c, src_n, src_v, src_r, src_s, bnd, lenV, capV, Option.isSome_none, Option.isNone_none, Option.isSome_some, Option.isNone_some, Bool.or_false, Bool.or_true, Bool.true_or, Bool.false_or, List.take_succ_cons, List.take_zero, List.drop_succ_cons, List.drop_zero, List.cons_append, List.nil_append, List.append_nil, List.take_nil, List.drop_nil, List.all_cons, List.all_nil, Bool.and_true, Bool.true_and, Kd.isRo, List.size_toArray, List.getElem?_toArray, List.toList_toArray, bldV, Nat.reduceLeDiff, Nat.le_refl, u_neg, b_or0, Int.reduceMul, Int.reduceAdd, Int.reduceSub, Int.zero_mul, Int.zero_add, Int.add_zero, b_shrs2, b_shr56, b_shl2, b_shl8, b_shl32, toNat_add1, toNat_add2, toNat_addn, toNat_add2n, Int.reduceToNat, maxLen_eq, zeros_one, zeros_two, zeros_three, take_mapl, List.length_map, List.map_append, List.length_append, beq_self_eq_true, beq_true, beq_false, Bool.false_xor, Bool.true_xor, Bool.xor_false, Bool.xor_true, dec_t, dec_f, ↓w_app, appS_some, appV_n, appV_v, appV_r, appR_c, appH_t, appH_f, Kd.isEx, Bool.false_and, partV, if_pos, if_neg, Nat.mul_one, Nat.one_mul, Nat.zero_add, Nat.add_zero, Int.toNat_natCast, true_and, and_true, a1, a2, a3, a4, b1, b2, b3, b4, c1, c2, c3, d1, d2, e1, e2, g1, g2, i1]) | (with_reducible refine condK_dec (fun _ => ?_) (fun _ => ?_)) | (with_reducible refine grd_dec (fun _ => ?_) (fun _ => ?_)) | (with_reducible refine egrd_dec (fun _ => ?_) (fun _ => ?_)))
  all_goals first | rfl | exact ⟨rfl, rfl⟩
end Can
end Go.Proofs.Ytapcoeecjlkdgaa
