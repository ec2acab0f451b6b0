/- Flow: what an instruction reads, writes, and where it goes on: both ways of saying it. -/
import Derived.Test.YtapcoeecjlkdgaaFlRow
namespace Go.Proofs.Ytapcoeecjlkdgaa
namespace Can
open Go Go.RowKit
set_option linter.unusedSimpArgs false
set_option linter.unusedVariables false
set_option maxRecDepth 4000
structure Ins where
  op : Int
  d : Int
  a : Int
  b : Int
  t : Int
  k : Int
  l : List Int
def i64r (x : Int) : Prop := -9223372036854775808 ≤ x ∧ x ≤ 9223372036854775807
theorem i64_wf {x : Int} (h : (Lit.int .i64 x).wf = true) : i64r x := by
  simp [Lit.wf, IntKind.min, IntKind.max, IntKind.signed, IntKind.bits] at h; unfold i64r; omega
theorem wf_i64 {x : Int} (h : i64r x) : (Lit.int .i64 x).wf = true := by
  unfold i64r at h; simp [Lit.wf, IntKind.min, IntKind.max, IntKind.signed, IntKind.bits]; omega
/-- Numbers within bounds; L of a length that can be. -/
structure InsOk (i : Ins) : Prop where
  op : i64r i.op
  d : i64r i.d
  a : i64r i.a
  b : i64r i.b
  t : i64r i.t
  k : i64r i.k
  l : ∀ x ∈ i.l, i64r x
  len : i.l.length * 8 ≤ reachBytes
def insC (i : Ins) (q : Option Addr) (c : Nat) : List Value := [.int .i64 i.op, .int .i64 i.d, .int .i64 i.a, .int .i64 i.b, .int .i64 i.t, .int .i64 i.k, .slice q i.l.length c]
def readsF (i : Ins) : List Int := (if fb 2 i.op then [i.a] else []) ++ (if fb 3 i.op then [i.b] else []) ++ (if fL i.op && !decide (i.op = 35) then i.l else [])
def writesF (i : Ins) : List Int := if i.op = 35 then i.l else if fb 1 i.op then [i.d] else []
def nextF (at' : Int) : Int := if at' < 9223372036854775807 then at' + 1 else at'
def goesF (i : Ins) (at' : Int) : List Int :=
  if i.op = 18 then [i.t] else if i.op = 41 ∨ i.op = 42 then [] else if i.op = 19 ∨ i.op = 20 ∨ i.op = 39 then [nextF at', i.t] else [nextF at']
theorem reach_eq : reachBytes = 140737488351232 := rfl
/-- An append, to a list that is known. -/
theorem app1 {A K : CH} {v : Value} {xs ys : List Int} {us : List Value} {m : Nat} (hg : Grw A 3 1 (ints .i64) K v xs) (hA : HExt A K) (hb : (xs.length + ys.length) * 8 ≤ 140737488355328) (hu : us = ys.flatMap (ints .i64)) (hl : m = ys.length)
    {Q : Value → CH → Prop} (k : ∀ v' K', Grw A 3 1 (ints .i64) K' v' (xs ++ ys) → HExt A K' → K.nx ≤ K'.nx → (∀ l, l < K.nx → (∀ o n c, v ≠ .slice (some ⟨l, o, none⟩) n c) → K'.ob l = K.ob l) → Q v' K') : optW (appV 3 1 8 v us m K) Q :=
  optW_app (ints_ok .i64) hg hA hb (by omega) hu hl k
theorem grw_new {α : Type} {A K0 : CH} {e sz : Nat} {f : α → List Value} {cs : List Value} {kd : Kd} {n : Nat} {xs : List α} (hcs : cs = xs.flatMap f) (hn : n = xs.length) (h1 : A.nx ≤ K0.nx) (hk : kd.isRo = false) : Grw A e sz f (K0.new (.cells cs e kd)) (.slice (some ⟨K0.nx, 0, none⟩) n n) xs := by
  subst hcs hn
  exact .inr ⟨_, kd, rfl, h1, Nat.lt_succ_self _, by rw [new_get, if_pos rfl], hk⟩
theorem rreads_wp {H : CH} {i : Ins} {q : Option Addr} {c : Nat} (hi : InsOk i) (hl : SlAt 1 (CInt .i64) H q c i.l) : WpF (tblG Try.prog LG GG) 18 [.agg (insC i q c).toArray] H fun v K => HExt H K ∧ Grw H 3 1 (ints .i64) K v (readsF i) := by
  have hlen := hi.len
  rw [reach_eq] at hlen
  have hsrc : ∀ K, HExt H K → srcCells K 1 (.slice q i.l.length c) = some (i.l.flatMap (ints .i64), i.l.length) := fun K hx => src_ints (hl.good (CInt.good _) hx)
  have hall : (i.l.flatMap (ints .i64)).all isCell = true := by rw [flat_ints]; simp [isCell]
  refine wpF_rG (by rfl) (by kernel_rfl) ?_; (conv in (rF _ _).body => reduce); (conv in (rF _ _).res => reduce)
  repeat' (first | (simp (disch := first | omega | (decide +kernel) | (repeat (first | assumption | exact HExt.refl _ | (refine HExt.set ?_ (by first | omega | (simp only [new_nx, set_nx]; omega)) _) | (refine HExt.new ?_ _)))) only [↓RD, RU, accW_t, accW_f, isW, ↓putF_get, ↓putF_none, ↓evF_t, ↓evF_c, ↓evF_f, new_nx, set_nx, new_get, set_get, getD_zero, getD_succ, u_not, pop, lop, aop, wop, resL, resV, tupleV, akV, isVal, isCell, Value.cells, List.map_cons, List.map_nil, Bool.not_true, Bool.not_false, Option.map_some, ↓reduceIte, Nat.reduceEqDiff, Nat.reduceAdd, Int.reduceOfNat, Int.reduceNegSucc, reduceCtorEq, List.getElem?_cons_zero, List.getElem?_cons_succ, List.length_cons, List.length_nil, srcR_c, src_n, src_v, src_s, bnd, lenV, capV, Option.isSome_none, Option.isNone_none, Option.isSome_some, Option.isNone_some, Bool.true_or, Bool.false_or, List.take_succ_cons, List.take_zero, List.drop_succ_cons, List.drop_zero, List.cons_append, List.nil_append, List.drop_nil, List.all_cons, List.all_nil, Bool.true_and, Kd.isRo, List.size_toArray, List.toList_toArray, bldV, Nat.reduceLeDiff, Int.reduceMul, Int.reduceAdd, Int.reduceSub, Int.reduceToNat, maxLen_eq, zeros_one, appS_some, appV_n, appV_v, appH_t, appH_f, Kd.isEx, Bool.false_and, partV, Nat.add_zero, Int.toNat_natCast, insC, row_iff, rowV]) | (with_reducible refine condK_dec (fun _ => ?_) (fun _ => ?_)) | (with_reducible refine grd_dec (fun _ => ?_) (fun _ => ?_)) | (with_reducible refine egrd_dec (fun _ => ?_) (fun _ => ?_)))
  cases e2 : fb 2 i.op <;> cases e3 : fb 3 i.op <;> rcases Nat.eq_zero_or_pos i.l.length with h0 | h0
  all_goals
    repeat' (first | (simp (disch := first | omega | (decide +kernel) | (repeat (first | assumption | exact HExt.refl _ | (refine HExt.set ?_ (by first | omega | (simp only [new_nx, set_nx]; omega)) _) | (refine HExt.new ?_ _)))) only [↓RD, RU, accW_t, accW_f, isW, ↓putF_get, ↓putF_none, ↓evF_t, ↓evF_c, ↓evF_f, new_nx, set_nx, new_get, set_get, getD_zero, getD_succ, u_not, pop, lop, aop, wop, resL, resV, tupleV, akV, isVal, isCell, Value.cells, List.map_cons, List.map_nil, Bool.not_true, Bool.not_false, Option.map_some, ↓reduceIte, Nat.reduceEqDiff, Nat.reduceAdd, Int.reduceOfNat, Int.reduceNegSucc, reduceCtorEq, List.getElem?_cons_zero, List.getElem?_cons_succ, List.length_cons, List.length_nil, srcR_c, src_n, src_v, src_s, bnd, lenV, capV, Option.isSome_none, Option.isNone_none, Option.isSome_some, Option.isNone_some, Bool.true_or, Bool.false_or, List.take_succ_cons, List.take_zero, List.drop_succ_cons, List.drop_zero, List.cons_append, List.nil_append, List.drop_nil, List.all_cons, List.all_nil, Bool.true_and, Kd.isRo, List.size_toArray, List.toList_toArray, bldV, Nat.reduceLeDiff, Int.reduceMul, Int.reduceAdd, Int.reduceSub, Int.reduceToNat, maxLen_eq, zeros_one, appS_some, appV_n, appV_v, appH_t, appH_f, Kd.isEx, Bool.false_and, partV, Nat.add_zero, Int.toNat_natCast, insC, row_iff, rowV, e2, e3, hsrc, hall]) | (with_reducible refine condK_dec (fun _ => ?_) (fun _ => ?_)) | (with_reducible refine grd_dec (fun _ => ?_) (fun _ => ?_)) | (with_reducible refine egrd_dec (fun _ => ?_) (fun _ => ?_)))
  all_goals
    refine ⟨by (repeat (first | assumption | exact HExt.refl _ | (refine HExt.set ?_ (by first | omega | (simp only [new_nx, set_nx]; omega)) _) | (refine HExt.new ?_ _))), ?_⟩
    simp only [readsF, fL, e2, e3]
    try (have h0' := List.length_eq_zero_iff.1 h0; simp only [h0'])
    first
      | (exact .inl ⟨by simp [*], rfl⟩)
      | (refine grw_new ?_ ?_ (by first | omega | (simp only [new_nx, set_nx]; omega)) rfl <;> (simp [ints, *]; try omega))
      | (refine grw_new ?_ ?_ (by first | omega | (simp only [new_nx, set_nx]; omega)) rfl <;> (simp [ints, *]))
theorem rwrites_wp {H : CH} {i : Ins} {q : Option Addr} {c : Nat} (hi : InsOk i) (hl : SlAt 1 (CInt .i64) H q c i.l) : WpF (tblG Try.prog LG GG) 27 [.agg (insC i q c).toArray] H fun v K => HExt H K ∧ Grw H 3 1 (ints .i64) K v (writesF i) := by
  have hlen := hi.len
  rw [reach_eq] at hlen
  have hsrc : ∀ K, HExt H K → srcCells K 1 (.slice q i.l.length c) = some (i.l.flatMap (ints .i64), i.l.length) := fun K hx => src_ints (hl.good (CInt.good _) hx)
  have hall : (i.l.flatMap (ints .i64)).all isCell = true := by rw [flat_ints]; simp [isCell]
  have h35 : i.op = 35 → fb 1 i.op = false := fun e => by rw [e]; rfl
  refine wpF_rG (by rfl) (by kernel_rfl) ?_; (conv in (rF _ _).body => reduce); (conv in (rF _ _).res => reduce)
  repeat' (first | (simp (disch := first | omega | (decide +kernel) | (repeat (first | assumption | exact HExt.refl _ | (refine HExt.set ?_ (by first | omega | (simp only [new_nx, set_nx]; omega)) _) | (refine HExt.new ?_ _)))) only [↓RD, RU, accW_t, accW_f, isW, ↓putF_get, ↓putF_none, ↓evF_t, ↓evF_c, ↓evF_f, new_nx, set_nx, new_get, set_get, getD_zero, getD_succ, u_not, pop, lop, aop, wop, resL, resV, tupleV, akV, isVal, isCell, Value.cells, List.map_cons, List.map_nil, Bool.not_true, Bool.not_false, Option.map_some, ↓reduceIte, Nat.reduceEqDiff, Nat.reduceAdd, Int.reduceOfNat, Int.reduceNegSucc, reduceCtorEq, List.getElem?_cons_zero, List.getElem?_cons_succ, List.length_cons, List.length_nil, srcR_c, src_n, src_v, src_s, bnd, lenV, capV, Option.isSome_none, Option.isNone_none, Option.isSome_some, Option.isNone_some, Bool.true_or, Bool.false_or, List.take_succ_cons, List.take_zero, List.drop_succ_cons, List.drop_zero, List.cons_append, List.nil_append, List.drop_nil, List.all_cons, List.all_nil, Bool.true_and, Kd.isRo, List.size_toArray, List.toList_toArray, bldV, Nat.reduceLeDiff, Int.reduceMul, Int.reduceAdd, Int.reduceSub, Int.reduceToNat, maxLen_eq, zeros_one, appS_some, appV_n, appV_v, appH_t, appH_f, Kd.isEx, Bool.false_and, partV, Nat.add_zero, Int.toNat_natCast, insC, row_iff, rowV]) | (with_reducible refine condK_dec (fun _ => ?_) (fun _ => ?_)) | (with_reducible refine grd_dec (fun _ => ?_) (fun _ => ?_)) | (with_reducible refine egrd_dec (fun _ => ?_) (fun _ => ?_)))
  cases e1 : fb 1 i.op <;> rcases Nat.eq_zero_or_pos i.l.length with h0 | h0
  all_goals
    repeat' (first | (simp (disch := first | omega | (decide +kernel) | (repeat (first | assumption | exact HExt.refl _ | (refine HExt.set ?_ (by first | omega | (simp only [new_nx, set_nx]; omega)) _) | (refine HExt.new ?_ _)))) only [↓RD, RU, accW_t, accW_f, isW, ↓putF_get, ↓putF_none, ↓evF_t, ↓evF_c, ↓evF_f, new_nx, set_nx, new_get, set_get, getD_zero, getD_succ, u_not, pop, lop, aop, wop, resL, resV, tupleV, akV, isVal, isCell, Value.cells, List.map_cons, List.map_nil, Bool.not_true, Bool.not_false, Option.map_some, ↓reduceIte, Nat.reduceEqDiff, Nat.reduceAdd, Int.reduceOfNat, Int.reduceNegSucc, reduceCtorEq, List.getElem?_cons_zero, List.getElem?_cons_succ, List.length_cons, List.length_nil, srcR_c, src_n, src_v, src_s, bnd, lenV, capV, Option.isSome_none, Option.isNone_none, Option.isSome_some, Option.isNone_some, Bool.true_or, Bool.false_or, List.take_succ_cons, List.take_zero, List.drop_succ_cons, List.drop_zero, List.cons_append, List.nil_append, List.drop_nil, List.all_cons, List.all_nil, Bool.true_and, Kd.isRo, List.size_toArray, List.toList_toArray, bldV, Nat.reduceLeDiff, Int.reduceMul, Int.reduceAdd, Int.reduceSub, Int.reduceToNat, maxLen_eq, zeros_one, appS_some, appV_n, appV_v, appH_t, appH_f, Kd.isEx, Bool.false_and, partV, Nat.add_zero, Int.toNat_natCast, insC, row_iff, rowV, e1, hsrc, hall]) | (with_reducible refine condK_dec (fun _ => ?_) (fun _ => ?_)) | (with_reducible refine grd_dec (fun _ => ?_) (fun _ => ?_)) | (with_reducible refine egrd_dec (fun _ => ?_) (fun _ => ?_)))
  all_goals
    refine ⟨by (repeat (first | assumption | exact HExt.refl _ | (refine HExt.set ?_ (by first | omega | (simp only [new_nx, set_nx]; omega)) _) | (refine HExt.new ?_ _))), ?_⟩
    simp only [writesF, e1]
    try (have h0' := List.length_eq_zero_iff.1 h0; simp only [h0'])
    first
      | (exfalso; rename_i e35; rw [h35 e35] at e1; cases e1; done)
      | (exact .inl ⟨by simp [*], rfl⟩)
      | (refine grw_new ?_ ?_ (by first | omega | (simp only [new_nx, set_nx]; omega)) rfl <;> (simp [ints, *]; try omega))
      | (refine grw_new ?_ ?_ (by first | omega | (simp only [new_nx, set_nx]; omega)) rfl <;> (simp [ints, *]))
theorem rgoes_wp {H : CH} {i : Ins} {q : Option Addr} {c : Nat} (hi : InsOk i) {a : Int} (ha : i64r a) : WpF (tblG Try.prog LG GG) 28 [.agg (insC i q c).toArray, .int .i64 a] H fun v K => HExt H K ∧ Grw H 3 1 (ints .i64) K v (goesF i a) := by
  unfold i64r at ha
  refine wpF_rG (by rfl) (by kernel_rfl) ?_; (conv in (rF _ _).body => reduce); (conv in (rF _ _).res => reduce)
  by_cases hm : a < 9223372036854775807
  all_goals
    repeat' (first | (simp (disch := first | omega | (decide +kernel) | (repeat (first | assumption | exact HExt.refl _ | (refine HExt.set ?_ (by first | omega | (simp only [new_nx, set_nx]; omega)) _) | (refine HExt.new ?_ _)))) only [↓RD, RU, accW_t, accW_f, isW, ↓putF_get, ↓putF_none, ↓evF_t, ↓evF_c, ↓evF_f, new_nx, set_nx, new_get, set_get, getD_zero, getD_succ, u_not, pop, lop, aop, wop, resL, resV, tupleV, akV, isVal, isCell, Value.cells, List.map_cons, List.map_nil, Bool.not_true, Bool.not_false, Option.map_some, ↓reduceIte, Nat.reduceEqDiff, Nat.reduceAdd, Int.reduceOfNat, Int.reduceNegSucc, reduceCtorEq, List.getElem?_cons_zero, List.getElem?_cons_succ, List.length_cons, List.length_nil, srcR_c, src_n, src_v, src_s, bnd, lenV, capV, Option.isSome_none, Option.isNone_none, Option.isSome_some, Option.isNone_some, Bool.true_or, Bool.false_or, List.take_succ_cons, List.take_zero, List.drop_succ_cons, List.drop_zero, List.cons_append, List.nil_append, List.drop_nil, List.all_cons, List.all_nil, Bool.true_and, Kd.isRo, List.size_toArray, List.toList_toArray, bldV, Nat.reduceLeDiff, Int.reduceMul, Int.reduceAdd, Int.reduceSub, Int.reduceToNat, maxLen_eq, zeros_one, appS_some, appV_n, appV_v, appH_t, appH_f, Kd.isEx, Bool.false_and, partV, Nat.add_zero, Int.toNat_natCast, insC]) | (with_reducible refine condK_dec (fun _ => ?_) (fun _ => ?_)) | (with_reducible refine grd_dec (fun _ => ?_) (fun _ => ?_)) | (with_reducible refine egrd_dec (fun _ => ?_) (fun _ => ?_)))
  all_goals
    refine ⟨by (repeat (first | assumption | exact HExt.refl _ | (refine HExt.set ?_ (by first | omega | (simp only [new_nx, set_nx]; omega)) _) | (refine HExt.new ?_ _))), ?_⟩
    simp only [goesF, nextF]
    first
      | (exact .inl ⟨by simp [*], rfl⟩)
      | (refine grw_new ?_ ?_ (by first | omega | (simp only [new_nx, set_nx]; omega)) rfl <;> first | (simp [ints, *]; done) | rfl | omega)
/-- The flags of an operation, masked. -/
def mskF (m : Nat) (op : Int) : Int := if knF op then (((tabF.getD op.toNat 0 + 1) &&& m : Nat) : Int) else 0
theorem msk_tab : ∀ n, n < 45 → ∀ m ∈ [2, 4, 8, 992], IntKind.i64.wrap ((BitVec.ofInt IntKind.i64.bits ((tabF.getD n 0 : Nat) + 1 : Int) &&& BitVec.ofInt IntKind.i64.bits (m : Nat)).toNat : Int) = (((tabF.getD n 0 + 1) &&& m : Nat) : Int) := by decide +kernel
theorem b_msk64 {op : Int} (m : Nat) (hm : m ∈ [2, 4, 8, 992]) : svOf (binOp .and 0 (.int .i64 (flV op)) (.int .i64 m)) = some (.int .i64 (mskF m op)) := by
  rw [b_and]
  congr 2
  unfold flV mskF
  cases hk : knF op with
  | false =>
    simp only [Bool.false_eq_true, if_false]
    rcases List.mem_cons.1 hm with rfl | hm
    · decide
    rcases List.mem_cons.1 hm with rfl | hm
    · decide
    rcases List.mem_cons.1 hm with rfl | hm
    · decide
    rcases List.mem_cons.1 hm with rfl | hm
    · decide
    · cases hm
  | true =>
    have h : 0 ≤ op ∧ op ≤ 44 := of_decide_eq_true hk
    simp only [if_true]
    exact msk_tab op.toNat (by omega) m hm
theorem b_msk2 {op : Int} : svOf (binOp .and 0 (.int .i64 (flV op)) (.int .i64 2)) = some (.int .i64 (mskF 2 op)) := b_msk64 2 (by decide)
theorem b_msk4 {op : Int} : svOf (binOp .and 0 (.int .i64 (flV op)) (.int .i64 4)) = some (.int .i64 (mskF 4 op)) := b_msk64 4 (by decide)
theorem b_msk8 {op : Int} : svOf (binOp .and 0 (.int .i64 (flV op)) (.int .i64 8)) = some (.int .i64 (mskF 8 op)) := b_msk64 8 (by decide)
theorem b_msk992 {op : Int} : svOf (binOp .and 0 (.int .i64 (flV op)) (.int .i64 992)) = some (.int .i64 (mskF 992 op)) := b_msk64 992 (by decide)
theorem bit_tab : ∀ n, n < 45 → (((tabF.getD n 0 + 1) &&& 2 ≠ 0) ↔ (tabF.getD n 0).testBit 1 = true) ∧ (((tabF.getD n 0 + 1) &&& 4 ≠ 0) ↔ (tabF.getD n 0).testBit 2 = true) ∧ (((tabF.getD n 0 + 1) &&& 8 ≠ 0) ↔ (tabF.getD n 0).testBit 3 = true) ∧ (((tabF.getD n 0 + 1) &&& 992 ≠ 0) ↔ fL n = true) := by decide +kernel
theorem msk_dec {op : Int} : decide (mskF 2 op ≠ 0) = fb 1 op ∧ decide (mskF 4 op ≠ 0) = fb 2 op ∧ decide (mskF 8 op ≠ 0) = fb 3 op ∧ decide (mskF 992 op ≠ 0) = fL op := by
  by_cases h : 0 ≤ op ∧ op ≤ 44
  · have hk : knF op = true := decide_eq_true h
    obtain ⟨h1, h2, h3, h4⟩ := bit_tab op.toNat (by omega)
    have e : ((op.toNat : Nat) : Int) = op := by omega
    rw [e] at h4
    unfold mskF fb
    simp only [hk, if_true, Bool.true_and]
    refine ⟨?_, ?_, ?_, ?_⟩
    · rw [Bool.eq_iff_iff, decide_eq_true_iff, ← h1]; omega
    · rw [Bool.eq_iff_iff, decide_eq_true_iff, ← h2]; omega
    · rw [Bool.eq_iff_iff, decide_eq_true_iff, ← h3]; omega
    · rw [Bool.eq_iff_iff, decide_eq_true_iff, ← h4]; omega
  · have hk : knF op = false := kn_out h
    have hL : fL op = false := by simp [fL, rlF, fb_out h]
    unfold mskF
    simp [hk, fb_out h, hL]
theorem msk1 {op : Int} : decide (mskF 2 op ≠ 0) = fb 1 op := msk_dec.1
theorem msk2 {op : Int} : decide (mskF 4 op ≠ 0) = fb 2 op := msk_dec.2.1
theorem msk3 {op : Int} : decide (mskF 8 op ≠ 0) = fb 3 op := msk_dec.2.2.1
theorem mskL {op : Int} : decide (mskF 992 op ≠ 0) = fL op := msk_dec.2.2.2
theorem reads_wp {H : CH} {i : Ins} {q : Option Addr} {c : Nat} (hi : InsOk i) (hl : SlAt 1 (CInt .i64) H q c i.l) : WpF (tblG Try.prog LG GG) 35 [.agg (insC i q c).toArray] H fun v K => HExt H K ∧ Grw H 3 1 (ints .i64) K v (readsF i) := by
  have hlen := hi.len
  rw [reach_eq] at hlen
  have hsrc : ∀ K, HExt H K → srcCells K 1 (.slice q i.l.length c) = some (i.l.flatMap (ints .i64), i.l.length) := fun K hx => src_ints (hl.good (CInt.good _) hx)
  have hall : (i.l.flatMap (ints .i64)).all isCell = true := by rw [flat_ints]; simp [isCell]
  refine wpF_rG (by rfl) (by kernel_rfl) ?_; (conv in (rF _ _).body => reduce); (conv in (rF _ _).res => reduce)
  repeat' (first | (simp (disch := first | omega | (decide +kernel) | (repeat (first | assumption | exact HExt.refl _ | (refine HExt.set ?_ (by first | omega | (simp only [new_nx, set_nx]; omega)) _) | (refine HExt.new ?_ _)))) only [↓RD, RU, accW_t, accW_f, isW, ↓putF_get, ↓putF_none, ↓evF_t, ↓evF_c, ↓evF_f, new_nx, set_nx, new_get, set_get, getD_zero, getD_succ, u_not, pop, lop, aop, wop, resL, resV, tupleV, akV, isVal, isCell, Value.cells, List.map_cons, List.map_nil, Bool.not_true, Bool.not_false, Option.map_some, ↓reduceIte, Nat.reduceEqDiff, Nat.reduceAdd, Int.reduceOfNat, Int.reduceNegSucc, reduceCtorEq, List.getElem?_cons_zero, List.getElem?_cons_succ, List.length_cons, List.length_nil, srcR_c, src_n, src_v, src_s, bnd, lenV, capV, Option.isSome_none, Option.isNone_none, Option.isSome_some, Option.isNone_some, Bool.true_or, Bool.false_or, List.take_succ_cons, List.take_zero, List.drop_succ_cons, List.drop_zero, List.cons_append, List.nil_append, List.drop_nil, List.all_cons, List.all_nil, Bool.true_and, Kd.isRo, List.size_toArray, List.toList_toArray, bldV, Nat.reduceLeDiff, Int.reduceMul, Int.reduceAdd, Int.reduceSub, Int.reduceToNat, maxLen_eq, zeros_one, appS_some, appV_n, appV_v, appH_t, appH_f, Kd.isEx, Bool.false_and, partV, Nat.add_zero, Int.toNat_natCast, insC, fl_iff, b_msk2, b_msk4, b_msk8, b_msk992, msk1, msk2, msk3, mskL]) | (with_reducible refine condK_dec (fun _ => ?_) (fun _ => ?_)) | (with_reducible refine grd_dec (fun _ => ?_) (fun _ => ?_)) | (with_reducible refine egrd_dec (fun _ => ?_) (fun _ => ?_)))
  cases e2 : fb 2 i.op <;> cases e3 : fb 3 i.op <;> cases eL : fL i.op <;> rcases Nat.eq_zero_or_pos i.l.length with h0 | h0
  all_goals
    repeat' (first | (simp (disch := first | omega | (decide +kernel) | (repeat (first | assumption | exact HExt.refl _ | (refine HExt.set ?_ (by first | omega | (simp only [new_nx, set_nx]; omega)) _) | (refine HExt.new ?_ _)))) only [↓RD, RU, accW_t, accW_f, isW, ↓putF_get, ↓putF_none, ↓evF_t, ↓evF_c, ↓evF_f, new_nx, set_nx, new_get, set_get, getD_zero, getD_succ, u_not, pop, lop, aop, wop, resL, resV, tupleV, akV, isVal, isCell, Value.cells, List.map_cons, List.map_nil, Bool.not_true, Bool.not_false, Option.map_some, ↓reduceIte, Nat.reduceEqDiff, Nat.reduceAdd, Int.reduceOfNat, Int.reduceNegSucc, reduceCtorEq, List.getElem?_cons_zero, List.getElem?_cons_succ, List.length_cons, List.length_nil, srcR_c, src_n, src_v, src_s, bnd, lenV, capV, Option.isSome_none, Option.isNone_none, Option.isSome_some, Option.isNone_some, Bool.true_or, Bool.false_or, List.take_succ_cons, List.take_zero, List.drop_succ_cons, List.drop_zero, List.cons_append, List.nil_append, List.drop_nil, List.all_cons, List.all_nil, Bool.true_and, Kd.isRo, List.size_toArray, List.toList_toArray, bldV, Nat.reduceLeDiff, Int.reduceMul, Int.reduceAdd, Int.reduceSub, Int.reduceToNat, maxLen_eq, zeros_one, appS_some, appV_n, appV_v, appH_t, appH_f, Kd.isEx, Bool.false_and, partV, Nat.add_zero, Int.toNat_natCast, insC, e2, e3, eL, hsrc, hall, b_msk2, b_msk4, b_msk8, b_msk992, msk1, msk2, msk3, mskL]) | (with_reducible refine condK_dec (fun _ => ?_) (fun _ => ?_)) | (with_reducible refine grd_dec (fun _ => ?_) (fun _ => ?_)) | (with_reducible refine egrd_dec (fun _ => ?_) (fun _ => ?_)))
  all_goals
    refine ⟨by (repeat (first | assumption | exact HExt.refl _ | (refine HExt.set ?_ (by first | omega | (simp only [new_nx, set_nx]; omega)) _) | (refine HExt.new ?_ _))), ?_⟩
    simp only [readsF, eL, e2, e3]
    try (have h0' := List.length_eq_zero_iff.1 h0; simp only [h0'])
    first
      | (exact .inl ⟨by simp [*], rfl⟩)
      | (refine grw_new ?_ ?_ (by first | omega | (simp only [new_nx, set_nx]; omega)) rfl <;> (simp [ints, *]; try omega))
      | (refine grw_new ?_ ?_ (by first | omega | (simp only [new_nx, set_nx]; omega)) rfl <;> (simp [ints, *]))
theorem writes_wp {H : CH} {i : Ins} {q : Option Addr} {c : Nat} (hi : InsOk i) (hl : SlAt 1 (CInt .i64) H q c i.l) : WpF (tblG Try.prog LG GG) 40 [.agg (insC i q c).toArray] H fun v K => HExt H K ∧ Grw H 3 1 (ints .i64) K v (writesF i) := by
  have hlen := hi.len
  rw [reach_eq] at hlen
  have hsrc : ∀ K, HExt H K → srcCells K 1 (.slice q i.l.length c) = some (i.l.flatMap (ints .i64), i.l.length) := fun K hx => src_ints (hl.good (CInt.good _) hx)
  have hall : (i.l.flatMap (ints .i64)).all isCell = true := by rw [flat_ints]; simp [isCell]
  refine wpF_rG (by rfl) (by kernel_rfl) ?_; (conv in (rF _ _).body => reduce); (conv in (rF _ _).res => reduce)
  cases e1 : fb 1 i.op <;> rcases Nat.eq_zero_or_pos i.l.length with h0 | h0
  all_goals
    repeat' (first | (simp (disch := first | omega | (decide +kernel) | (repeat (first | assumption | exact HExt.refl _ | (refine HExt.set ?_ (by first | omega | (simp only [new_nx, set_nx]; omega)) _) | (refine HExt.new ?_ _)))) only [↓RD, RU, accW_t, accW_f, isW, ↓putF_get, ↓putF_none, ↓evF_t, ↓evF_c, ↓evF_f, new_nx, set_nx, new_get, set_get, getD_zero, getD_succ, u_not, pop, lop, aop, wop, resL, resV, tupleV, akV, isVal, isCell, Value.cells, List.map_cons, List.map_nil, Bool.not_true, Bool.not_false, Option.map_some, ↓reduceIte, Nat.reduceEqDiff, Nat.reduceAdd, Int.reduceOfNat, Int.reduceNegSucc, reduceCtorEq, List.getElem?_cons_zero, List.getElem?_cons_succ, List.length_cons, List.length_nil, srcR_c, src_n, src_v, src_s, bnd, lenV, capV, Option.isSome_none, Option.isNone_none, Option.isSome_some, Option.isNone_some, Bool.true_or, Bool.false_or, List.take_succ_cons, List.take_zero, List.drop_succ_cons, List.drop_zero, List.cons_append, List.nil_append, List.drop_nil, List.all_cons, List.all_nil, Bool.true_and, Kd.isRo, List.size_toArray, List.toList_toArray, bldV, Nat.reduceLeDiff, Int.reduceMul, Int.reduceAdd, Int.reduceSub, Int.reduceToNat, maxLen_eq, zeros_one, appS_some, appV_n, appV_v, appH_t, appH_f, Kd.isEx, Bool.false_and, partV, Nat.add_zero, Int.toNat_natCast, insC, fl_iff, e1, hsrc, hall, b_msk2, msk1]) | (with_reducible refine condK_dec (fun _ => ?_) (fun _ => ?_)) | (with_reducible refine grd_dec (fun _ => ?_) (fun _ => ?_)) | (with_reducible refine egrd_dec (fun _ => ?_) (fun _ => ?_)))
  all_goals
    refine ⟨by (repeat (first | assumption | exact HExt.refl _ | (refine HExt.set ?_ (by first | omega | (simp only [new_nx, set_nx]; omega)) _) | (refine HExt.new ?_ _))), ?_⟩
    simp only [writesF, e1]
    try (have h0' := List.length_eq_zero_iff.1 h0; simp only [h0'])
    first
      | (exact .inl ⟨by simp [*], rfl⟩)
      | (refine grw_new ?_ ?_ (by first | omega | (simp only [new_nx, set_nx]; omega)) rfl <;> (simp [ints, *]; try omega))
      | (refine grw_new ?_ ?_ (by first | omega | (simp only [new_nx, set_nx]; omega)) rfl <;> (simp [ints, *]))
theorem wrap_top : IntKind.i64.wrap 9223372036854775808 = -9223372036854775808 := by decide
theorem goes_wp {H : CH} {i : Ins} {q : Option Addr} {c : Nat} (hi : InsOk i) {a : Int} (ha : i64r a) : WpF (tblG Try.prog LG GG) 41 [.agg (insC i q c).toArray, .int .i64 a] H fun v K => HExt H K ∧ Grw H 3 1 (ints .i64) K v (goesF i a) := by
  unfold i64r at ha
  refine wpF_rG (by rfl) (by kernel_rfl) ?_; (conv in (rF _ _).body => reduce); (conv in (rF _ _).res => reduce)
  by_cases hm : a < 9223372036854775807
  · repeat' (first | (simp (disch := first | omega | (decide +kernel) | (repeat (first | assumption | exact HExt.refl _ | (refine HExt.set ?_ (by first | omega | (simp only [new_nx, set_nx]; omega)) _) | (refine HExt.new ?_ _)))) only [↓RD, RU, accW_t, accW_f, isW, ↓putF_get, ↓putF_none, ↓evF_t, ↓evF_c, ↓evF_f, new_nx, set_nx, new_get, set_get, getD_zero, getD_succ, u_not, pop, lop, aop, wop, resL, resV, tupleV, akV, isVal, isCell, Value.cells, List.map_cons, List.map_nil, Bool.not_true, Bool.not_false, Option.map_some, ↓reduceIte, Nat.reduceEqDiff, Nat.reduceAdd, Int.reduceOfNat, Int.reduceNegSucc, reduceCtorEq, List.getElem?_cons_zero, List.getElem?_cons_succ, List.length_cons, List.length_nil, srcR_c, src_n, src_v, src_s, bnd, lenV, capV, Option.isSome_none, Option.isNone_none, Option.isSome_some, Option.isNone_some, Bool.true_or, Bool.false_or, List.take_succ_cons, List.take_zero, List.drop_succ_cons, List.drop_zero, List.cons_append, List.nil_append, List.drop_nil, List.all_cons, List.all_nil, Bool.true_and, Kd.isRo, List.size_toArray, List.toList_toArray, bldV, Nat.reduceLeDiff, Int.reduceMul, Int.reduceAdd, Int.reduceSub, Int.reduceToNat, maxLen_eq, zeros_one, appS_some, appV_n, appV_v, appH_t, appH_f, Kd.isEx, Bool.false_and, partV, Nat.add_zero, Int.toNat_natCast, insC]) | (with_reducible refine condK_dec (fun _ => ?_) (fun _ => ?_)) | (with_reducible refine grd_dec (fun _ => ?_) (fun _ => ?_)) | (with_reducible refine egrd_dec (fun _ => ?_) (fun _ => ?_)))
    all_goals
      refine ⟨by (repeat (first | assumption | exact HExt.refl _ | (refine HExt.set ?_ (by first | omega | (simp only [new_nx, set_nx]; omega)) _) | (refine HExt.new ?_ _))), ?_⟩
      simp only [goesF, nextF]
      first
        | (exact .inl ⟨by simp [*], rfl⟩)
        | (refine grw_new ?_ ?_ (by first | omega | (simp only [new_nx, set_nx]; omega)) rfl <;> first | (simp [ints, *]; done) | rfl | omega)
  · obtain rfl : a = 9223372036854775807 := by omega
    repeat' (first | (simp (disch := first | omega | (decide +kernel) | (repeat (first | assumption | exact HExt.refl _ | (refine HExt.set ?_ (by first | omega | (simp only [new_nx, set_nx]; omega)) _) | (refine HExt.new ?_ _)))) only [↓RD, RU, accW_t, accW_f, isW, ↓putF_get, ↓putF_none, ↓evF_t, ↓evF_c, ↓evF_f, new_nx, set_nx, new_get, set_get, getD_zero, getD_succ, u_not, pop, lop, aop, wop, resL, resV, tupleV, akV, isVal, isCell, Value.cells, List.map_cons, List.map_nil, Bool.not_true, Bool.not_false, Option.map_some, ↓reduceIte, Nat.reduceEqDiff, Nat.reduceAdd, Int.reduceOfNat, Int.reduceNegSucc, reduceCtorEq, List.getElem?_cons_zero, List.getElem?_cons_succ, List.length_cons, List.length_nil, srcR_c, src_n, src_v, src_s, bnd, lenV, capV, Option.isSome_none, Option.isNone_none, Option.isSome_some, Option.isNone_some, Bool.true_or, Bool.false_or, List.take_succ_cons, List.take_zero, List.drop_succ_cons, List.drop_zero, List.cons_append, List.nil_append, List.drop_nil, List.all_cons, List.all_nil, Bool.true_and, Kd.isRo, List.size_toArray, List.toList_toArray, bldV, Nat.reduceLeDiff, Int.reduceMul, Int.reduceAdd, Int.reduceSub, Int.reduceToNat, maxLen_eq, zeros_one, appS_some, appV_n, appV_v, appH_t, appH_f, Kd.isEx, Bool.false_and, partV, Nat.add_zero, Int.toNat_natCast, insC, wrap_top, Int.reduceLT]) | (with_reducible refine condK_dec (fun _ => ?_) (fun _ => ?_)) | (with_reducible refine grd_dec (fun _ => ?_) (fun _ => ?_)) | (with_reducible refine egrd_dec (fun _ => ?_) (fun _ => ?_)))
    all_goals
      refine ⟨by (repeat (first | assumption | exact HExt.refl _ | (refine HExt.set ?_ (by first | omega | (simp only [new_nx, set_nx]; omega)) _) | (refine HExt.new ?_ _))), ?_⟩
      simp only [goesF, nextF]
      first
        | (exact .inl ⟨by simp [*], rfl⟩)
        | (refine grw_new ?_ ?_ (by first | omega | (simp only [new_nx, set_nx]; omega)) rfl <;> first | (simp [ints, *]; done) | rfl | omega)
end Can
end Go.Proofs.Ytapcoeecjlkdgaa
