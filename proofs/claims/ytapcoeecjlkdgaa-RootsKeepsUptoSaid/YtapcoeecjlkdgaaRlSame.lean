/- Flow: SameMaps; what both ways of saying Live answer is the same. -/
import Derived.Test.YtapcoeecjlkdgaaRlLive
namespace Go.Proofs.Ytapcoeecjlkdgaa
namespace Can
open Go Go.RowKit
set_option linter.unusedSimpArgs false
set_option linter.unusedVariables false
set_option maxRecDepth 4000
/-- A list of maps, as read. -/
def MRd (K : CH) (b n : Nat) (ms : List (List Nat)) : Prop := ∃ oc e kd, K.ob b = .cells oc e kd ∧ oc.length = n ∧ ∀ i, i < n → ∃ q c, oc[i]? = some (.slice q (ms.getD i []).length c) ∧ SlAt 1 (CInt .u64) K q c ((ms.getD i []).map fun (x : Nat) => (x : Int))
theorem wds_get {H : CH} {q : Option Addr} {c : Nat} {ws : List Nat} (h : SlAt 1 (CInt .u64) H q c (ws.map fun (x : Nat) => (x : Int))) (hp : 0 < ws.length) : ∃ l o os e k, q = some ⟨l, o, none⟩ ∧ ws.length ≤ 9223372036854775807 ∧ H.ob l = .cells os e k ∧ ∀ i, i < ws.length → os[o + i]? = some (.int .u64 ((ws.getD i 0 : Nat) : Int)) := by
  obtain ⟨l, o, os, e, k, hq, hl, hc, hm, hob, hol, hos, hwf⟩ := h.ints (by simpa using hp)
  rw [maxLen_eq] at hm
  refine ⟨l, o, os, e, k, hq, by simp at hc; omega, hob, fun i hi => ?_⟩
  rw [hos i (by simpa using hi)]
  simp [List.getD, List.getElem?_eq_getElem hi]
theorem samemaps_wp {H : CH} {b1 b2 n c1 c2 : Nat} {ms : List (List Nat)} (h1 : MRd H b1 n ms) (h2 : MRd H b2 n ms) (hn : n ≤ 9223372036854775807) :
    WpF (tblG Try.prog LG GG) 11 [.slice (some ⟨b1, 0, none⟩) n c1, .slice (some ⟨b2, 0, none⟩) n c2] H fun v K => v = .bool true ∧ K = H := by
  obtain ⟨oc1, e1, k1, ho1, hl1, hr1⟩ := h1
  obtain ⟨oc2, e2, k2, ho2, hl2, hr2⟩ := h2
  refine wpF_rG (by rfl) (by kernel_rfl) ?_; (conv in (rF _ _).body => reduce); (conv in (rF _ _).res => reduce)
  repeat' (first | (simp (disch := first | omega | (decide +kernel) | (repeat (first | assumption | exact HExt.refl _ | (refine HExt.set ?_ (by first | omega | (simp only [new_nx, set_nx]; omega)) _) | (refine HExt.new ?_ _)))) only [↓RD, RU, accW_t, accW_f, isW, ↓putF_get, ↓putF_none, ↓evF_t, ↓evF_c, ↓evF_f, new_nx, set_nx, new_get, set_get, getD_zero, getD_succ, u_not, pop, lop, aop, wop, resL, resV, tupleV, akV, isVal, isCell, Value.cells, List.map_cons, List.map_nil, Bool.not_true, Bool.not_false, Option.map_some, ↓reduceIte, Nat.reduceEqDiff, Nat.reduceAdd, Int.reduceOfNat, Int.reduceNegSucc, reduceCtorEq, List.getElem?_cons_zero, List.getElem?_cons_succ, List.length_cons, List.length_nil, srcR_c, src_n, src_v, src_s, bnd, lenV, capV, Option.isSome_none, Option.isNone_none, Option.isSome_some, Option.isNone_some, Bool.true_or, Bool.false_or, List.take_succ_cons, List.take_zero, List.drop_succ_cons, List.drop_zero, List.cons_append, List.nil_append, List.drop_nil, List.all_cons, List.all_nil, Bool.true_and, Kd.isRo, List.size_toArray, List.toList_toArray, bldV, Nat.reduceLeDiff, Int.reduceMul, Int.reduceAdd, Int.reduceSub, Int.reduceToNat, maxLen_eq, zeros_one, appS_some, appV_n, appV_v, appH_t, appH_f, Kd.isEx, Bool.false_and, partV, Nat.add_zero, Int.toNat_natCast]) | (with_reducible refine condK_dec (fun _ => ?_) (fun _ => ?_)) | (with_reducible refine grd_dec (fun _ => ?_) (fun _ => ?_)) | (with_reducible refine egrd_dec (fun _ => ?_) (fun _ => ?_)))
  refine loop_w (fun m fr K => ∃ j : Nat, m = n - j ∧ j ≤ n ∧ fr 5 = .int .i64 (j : Int) ∧ K = H) (n := n) ⟨0, rfl, Nat.zero_le _, by (repeat' (first | (simp (disch := first | omega | (decide +kernel) | (repeat (first | assumption | exact HExt.refl _ | (refine HExt.set ?_ (by first | omega | (simp only [new_nx, set_nx]; omega)) _) | (refine HExt.new ?_ _)))) only [↓RD, RU, accW_t, accW_f, isW, ↓putF_get, ↓putF_none, ↓evF_t, ↓evF_c, ↓evF_f, new_nx, set_nx, new_get, set_get, getD_zero, getD_succ, u_not, pop, lop, aop, wop, resL, resV, tupleV, akV, isVal, isCell, Value.cells, List.map_cons, List.map_nil, Bool.not_true, Bool.not_false, Option.map_some, ↓reduceIte, Nat.reduceEqDiff, Nat.reduceAdd, Int.reduceOfNat, Int.reduceNegSucc, reduceCtorEq, List.getElem?_cons_zero, List.getElem?_cons_succ, List.length_cons, List.length_nil, srcR_c, src_n, src_v, src_s, bnd, lenV, capV, Option.isSome_none, Option.isNone_none, Option.isSome_some, Option.isNone_some, Bool.true_or, Bool.false_or, List.take_succ_cons, List.take_zero, List.drop_succ_cons, List.drop_zero, List.cons_append, List.nil_append, List.drop_nil, List.all_cons, List.all_nil, Bool.true_and, Kd.isRo, List.size_toArray, List.toList_toArray, bldV, Nat.reduceLeDiff, Int.reduceMul, Int.reduceAdd, Int.reduceSub, Int.reduceToNat, maxLen_eq, zeros_one, appS_some, appV_n, appV_v, appH_t, appH_f, Kd.isEx, Bool.false_and, partV, Nat.add_zero, Int.toNat_natCast]) | (with_reducible refine condK_dec (fun _ => ?_) (fun _ => ?_)) | (with_reducible refine grd_dec (fun _ => ?_) (fun _ => ?_)) | (with_reducible refine egrd_dec (fun _ => ?_) (fun _ => ?_)))); all_goals rfl, rfl⟩ ?_
  rintro m fr K ⟨j, rfl, hj, f5, rfl⟩ hag
  by_cases hjn : j < n
  case neg =>
    repeat' (first | (simp (disch := first | omega | (decide +kernel) | (repeat (first | assumption | exact HExt.refl _ | (refine HExt.set ?_ (by first | omega | (simp only [new_nx, set_nx]; omega)) _) | (refine HExt.new ?_ _)))) only [↓RD, RU, accW_t, accW_f, isW, ↓putF_get, ↓putF_none, ↓evF_t, ↓evF_c, ↓evF_f, new_nx, set_nx, new_get, set_get, getD_zero, getD_succ, u_not, pop, lop, aop, wop, resL, resV, tupleV, akV, isVal, isCell, Value.cells, List.map_cons, List.map_nil, Bool.not_true, Bool.not_false, Option.map_some, ↓reduceIte, Nat.reduceEqDiff, Nat.reduceAdd, Int.reduceOfNat, Int.reduceNegSucc, reduceCtorEq, List.getElem?_cons_zero, List.getElem?_cons_succ, List.length_cons, List.length_nil, srcR_c, src_n, src_v, src_s, bnd, lenV, capV, Option.isSome_none, Option.isNone_none, Option.isSome_some, Option.isNone_some, Bool.true_or, Bool.false_or, List.take_succ_cons, List.take_zero, List.drop_succ_cons, List.drop_zero, List.cons_append, List.nil_append, List.drop_nil, List.all_cons, List.all_nil, Bool.true_and, Kd.isRo, List.size_toArray, List.toList_toArray, bldV, Nat.reduceLeDiff, Int.reduceMul, Int.reduceAdd, Int.reduceSub, Int.reduceToNat, maxLen_eq, zeros_one, appS_some, appV_n, appV_v, appH_t, appH_f, Kd.isEx, Bool.false_and, partV, Nat.add_zero, Int.toNat_natCast, f5, hag]) | (with_reducible refine condK_dec (fun _ => ?_) (fun _ => ?_)) | (with_reducible refine grd_dec (fun _ => ?_) (fun _ => ?_)) | (with_reducible refine egrd_dec (fun _ => ?_) (fun _ => ?_)))
    all_goals first | rfl | exact ⟨rfl, rfl⟩
  obtain ⟨q1, d1, g1, s1⟩ := hr1 j hjn
  obtain ⟨q2, d2, g2, s2⟩ := hr2 j hjn
  obtain ⟨wj, hwj⟩ : ∃ wj, ms.getD j [] = wj := ⟨_, rfl⟩
  rw [hwj] at g1 s1 g2 s2
  repeat' (first | (simp (disch := first | omega | (decide +kernel) | (repeat (first | assumption | exact HExt.refl _ | (refine HExt.set ?_ (by first | omega | (simp only [new_nx, set_nx]; omega)) _) | (refine HExt.new ?_ _)))) only [↓RD, RU, accW_t, accW_f, isW, ↓putF_get, ↓putF_none, ↓evF_t, ↓evF_c, ↓evF_f, new_nx, set_nx, new_get, set_get, getD_zero, getD_succ, u_not, pop, lop, aop, wop, resL, resV, tupleV, akV, isVal, isCell, Value.cells, List.map_cons, List.map_nil, Bool.not_true, Bool.not_false, Option.map_some, ↓reduceIte, Nat.reduceEqDiff, Nat.reduceAdd, Int.reduceOfNat, Int.reduceNegSucc, reduceCtorEq, List.getElem?_cons_zero, List.getElem?_cons_succ, List.length_cons, List.length_nil, srcR_c, src_n, src_v, src_s, bnd, lenV, capV, Option.isSome_none, Option.isNone_none, Option.isSome_some, Option.isNone_some, Bool.true_or, Bool.false_or, List.take_succ_cons, List.take_zero, List.drop_succ_cons, List.drop_zero, List.cons_append, List.nil_append, List.drop_nil, List.all_cons, List.all_nil, Bool.true_and, Kd.isRo, List.size_toArray, List.toList_toArray, bldV, Nat.reduceLeDiff, Int.reduceMul, Int.reduceAdd, Int.reduceSub, Int.reduceToNat, maxLen_eq, zeros_one, appS_some, appV_n, appV_v, appH_t, appH_f, Kd.isEx, Bool.false_and, partV, Nat.add_zero, Int.toNat_natCast, f5, hag, ho1, ho2, hl1, hl2, g1, g2]) | (with_reducible refine condK_dec (fun _ => ?_) (fun _ => ?_)) | (with_reducible refine grd_dec (fun _ => ?_) (fun _ => ?_)) | (with_reducible refine egrd_dec (fun _ => ?_) (fun _ => ?_)))
  refine loop_w (fun m fr K' => ∃ i : Nat, m = wj.length - i ∧ i ≤ wj.length ∧ fr 6 = .int .i64 (i : Int) ∧ K' = K) (n := wj.length) ⟨0, rfl, Nat.zero_le _, by (repeat' (first | (simp (disch := first | omega | (decide +kernel) | (repeat (first | assumption | exact HExt.refl _ | (refine HExt.set ?_ (by first | omega | (simp only [new_nx, set_nx]; omega)) _) | (refine HExt.new ?_ _)))) only [↓RD, RU, accW_t, accW_f, isW, ↓putF_get, ↓putF_none, ↓evF_t, ↓evF_c, ↓evF_f, new_nx, set_nx, new_get, set_get, getD_zero, getD_succ, u_not, pop, lop, aop, wop, resL, resV, tupleV, akV, isVal, isCell, Value.cells, List.map_cons, List.map_nil, Bool.not_true, Bool.not_false, Option.map_some, ↓reduceIte, Nat.reduceEqDiff, Nat.reduceAdd, Int.reduceOfNat, Int.reduceNegSucc, reduceCtorEq, List.getElem?_cons_zero, List.getElem?_cons_succ, List.length_cons, List.length_nil, srcR_c, src_n, src_v, src_s, bnd, lenV, capV, Option.isSome_none, Option.isNone_none, Option.isSome_some, Option.isNone_some, Bool.true_or, Bool.false_or, List.take_succ_cons, List.take_zero, List.drop_succ_cons, List.drop_zero, List.cons_append, List.nil_append, List.drop_nil, List.all_cons, List.all_nil, Bool.true_and, Kd.isRo, List.size_toArray, List.toList_toArray, bldV, Nat.reduceLeDiff, Int.reduceMul, Int.reduceAdd, Int.reduceSub, Int.reduceToNat, maxLen_eq, zeros_one, appS_some, appV_n, appV_v, appH_t, appH_f, Kd.isEx, Bool.false_and, partV, Nat.add_zero, Int.toNat_natCast]) | (with_reducible refine condK_dec (fun _ => ?_) (fun _ => ?_)) | (with_reducible refine grd_dec (fun _ => ?_) (fun _ => ?_)) | (with_reducible refine egrd_dec (fun _ => ?_) (fun _ => ?_)))); all_goals rfl, rfl⟩ ?_
  rintro m fr2 K' ⟨i, rfl, hi, f6, rfl⟩ hag2
  by_cases hil : i < wj.length
  case neg =>
    repeat' (first | (simp (disch := first | omega | (decide +kernel) | (repeat (first | assumption | exact HExt.refl _ | (refine HExt.set ?_ (by first | omega | (simp only [new_nx, set_nx]; omega)) _) | (refine HExt.new ?_ _)))) only [↓RD, RU, accW_t, accW_f, isW, ↓putF_get, ↓putF_none, ↓evF_t, ↓evF_c, ↓evF_f, new_nx, set_nx, new_get, set_get, getD_zero, getD_succ, u_not, pop, lop, aop, wop, resL, resV, tupleV, akV, isVal, isCell, Value.cells, List.map_cons, List.map_nil, Bool.not_true, Bool.not_false, Option.map_some, ↓reduceIte, Nat.reduceEqDiff, Nat.reduceAdd, Int.reduceOfNat, Int.reduceNegSucc, reduceCtorEq, List.getElem?_cons_zero, List.getElem?_cons_succ, List.length_cons, List.length_nil, srcR_c, src_n, src_v, src_s, bnd, lenV, capV, Option.isSome_none, Option.isNone_none, Option.isSome_some, Option.isNone_some, Bool.true_or, Bool.false_or, List.take_succ_cons, List.take_zero, List.drop_succ_cons, List.drop_zero, List.cons_append, List.nil_append, List.drop_nil, List.all_cons, List.all_nil, Bool.true_and, Kd.isRo, List.size_toArray, List.toList_toArray, bldV, Nat.reduceLeDiff, Int.reduceMul, Int.reduceAdd, Int.reduceSub, Int.reduceToNat, maxLen_eq, zeros_one, appS_some, appV_n, appV_v, appH_t, appH_f, Kd.isEx, Bool.false_and, partV, Nat.add_zero, Int.toNat_natCast, f5, f6, hag2, hag, ho1, ho2, hl1, hl2, g1, g2]) | (with_reducible refine condK_dec (fun _ => ?_) (fun _ => ?_)) | (with_reducible refine grd_dec (fun _ => ?_) (fun _ => ?_)) | (with_reducible refine egrd_dec (fun _ => ?_) (fun _ => ?_)))
    exact ⟨_, by omega, j + 1, rfl, by omega, rfl⟩
  obtain ⟨l1, o1, os1, _, _, hq1, hm1, hb1, ha1⟩ := wds_get s1 (by omega)
  obtain ⟨l2, o2, os2, _, _, hq2, hm2, hb2, ha2⟩ := wds_get s2 (by omega)
  subst hq1 hq2
  have x1 := ha1 i hil
  have x2 := ha2 i hil
  repeat' (first | (simp (disch := first | omega | (decide +kernel) | (repeat (first | assumption | exact HExt.refl _ | (refine HExt.set ?_ (by first | omega | (simp only [new_nx, set_nx]; omega)) _) | (refine HExt.new ?_ _)))) only [↓RD, RU, accW_t, accW_f, isW, ↓putF_get, ↓putF_none, ↓evF_t, ↓evF_c, ↓evF_f, new_nx, set_nx, new_get, set_get, getD_zero, getD_succ, u_not, pop, lop, aop, wop, resL, resV, tupleV, akV, isVal, isCell, Value.cells, List.map_cons, List.map_nil, Bool.not_true, Bool.not_false, Option.map_some, ↓reduceIte, Nat.reduceEqDiff, Nat.reduceAdd, Int.reduceOfNat, Int.reduceNegSucc, reduceCtorEq, List.getElem?_cons_zero, List.getElem?_cons_succ, List.length_cons, List.length_nil, srcR_c, src_n, src_v, src_s, bnd, lenV, capV, Option.isSome_none, Option.isNone_none, Option.isSome_some, Option.isNone_some, Bool.true_or, Bool.false_or, List.take_succ_cons, List.take_zero, List.drop_succ_cons, List.drop_zero, List.cons_append, List.nil_append, List.drop_nil, List.all_cons, List.all_nil, Bool.true_and, Kd.isRo, List.size_toArray, List.toList_toArray, bldV, Nat.reduceLeDiff, Int.reduceMul, Int.reduceAdd, Int.reduceSub, Int.reduceToNat, maxLen_eq, zeros_one, appS_some, appV_n, appV_v, appH_t, appH_f, Kd.isEx, Bool.false_and, partV, Nat.add_zero, Int.toNat_natCast, f5, f6, hag2, hag, ho1, ho2, hl1, hl2, g1, g2, hb1, hb2, x1, x2]) | (with_reducible refine condK_dec (fun _ => ?_) (fun _ => ?_)) | (with_reducible refine grd_dec (fun _ => ?_) (fun _ => ?_)) | (with_reducible refine egrd_dec (fun _ => ?_) (fun _ => ?_)))
  exact ⟨_, by omega, i + 1, rfl, by omega, rfl⟩
theorem MRd.good {H K : CH} {b n : Nat} {ms : List (List Nat)} (h : MRd H b n ms) (hx : HExt H K) (hb : b < H.nx) : MRd K b n ms := by
  obtain ⟨oc, e, k, h1, h2, h3⟩ := h
  refine ⟨oc, e, k, (hx.ob b hb).trans h1, h2, fun i hi => ?_⟩
  obtain ⟨q, c, a1, a2⟩ := h3 i hi
  exact ⟨q, c, a1, a2.good (CInt.good _) hx⟩
theorem mrd_rows {K : CH} {b n W : Nat} {rows : List Nat} {mm : List (List Nat)} (ho : K.ob b = .cells (outC W n rows) 36 .ex) (hl : rows.length = n) (hx : ∀ x ∈ rows, x < K.nx) (hr : ∀ i, i < rows.length → K.ob (rows.getD i 0) = .cells (wordC (mm.getD i [])) 40 .ex) (hw : ∀ i, i < rows.length → (mm.getD i []).length = W) (h64 : ∀ i, i < rows.length → W64 (mm.getD i [])) (hW : W ≤ 1025) : MRd K b n mm := by
  refine ⟨_, _, _, ho, outC_len (by omega), fun i hi => ?_⟩
  have g := outC_get (W := W) (n := n) (rows := rows) (i := i) (by omega)
  have hrow := hr i (by omega)
  have hwl := hw i (by omega)
  have hww := h64 i (by omega)
  obtain ⟨wi, hwi⟩ : ∃ wi, mm.getD i [] = wi := ⟨_, rfl⟩
  rw [hwi] at hrow hwl hww ⊢
  refine ⟨_, _, by rw [g, hwl], .inr ⟨_, 0, _, _, _, rfl, hx _ (getD_mem (by omega)), by simp [hwl], by rw [maxLen_eq]; omega, hrow, by simp [wordC_len], fun k hk => ?_⟩⟩
  have hk' : k < wi.length := by simpa using hk
  refine ⟨?_, ?_⟩
  · rw [Nat.zero_add, Nat.mul_one, List.take_one, List.head?_drop, wordC_get hk']
    simp [List.getD, List.getElem?_eq_getElem hk']
  · have hm := hww _ (List.getElem_mem hk')
    simp [Lit.wf, IntKind.min, IntKind.max, IntKind.signed, IntKind.bits]; omega
theorem maps_eq {F : Fn'} {n W : Nat} {m1 m2 : List (List Nat)} (l1 : m1.length = n) (l2 : m2.length = n) (w1 : ∀ i, i < n → (m1.getD i []).length = W) (w2 : ∀ i, i < n → (m2.getD i []).length = W) (x1 : ∀ i, i < n → W64 (m1.getD i [])) (x2 : ∀ i, i < n → W64 (m2.getD i []))
    (b1 : ∀ i, i < n → ∀ s, bitM m1 i s = true ↔ Lv F i s) (b2 : ∀ i, i < n → ∀ s, bitM m2 i s = true ↔ Lv F i s) : m1 = m2 := by
  have hg : ∀ (m : List (List Nat)) i (h : i < m.length), m.getD i [] = m[i] := fun m i h => by simp [List.getD, List.getElem?_eq_getElem h]
  apply List.ext_getElem (by omega)
  intro i h1 h2
  rw [← hg m1 i h1, ← hg m2 i h2]
  refine words_ext (by rw [w1 i (by omega), w2 i (by omega)]) (x1 i (by omega)) (x2 i (by omega)) fun r => ?_
  have a := b1 i (by omega) r
  have b := b2 i (by omega) r
  unfold bitM at a b
  rw [Bool.eq_iff_iff]
  exact a.trans b.symm
theorem ms_sum {F : Fn'} : ms (fun i => 3 + (F.ins.getD i default).l.length) F.ins.length = 3 * F.ins.length + (F.ins.map fun i => i.l.length).sum := by
  have h : ∀ (l : List Ins) (k : Nat), k ≤ l.length → ms (fun i => 3 + (l.getD i default).l.length) k = 3 * k + ((l.take k).map fun i => i.l.length).sum := by
    intro l k
    induction k with
    | zero => intro _; simp [ms]
    | succ k ih =>
      intro hk
      show ms _ k + (3 + (l.getD k default).l.length) = _
      rw [ih (by omega), List.take_add_one, List.getElem?_eq_getElem (by omega)]
      have : l.getD k default = l[k] := by simp [List.getD, List.getElem?_eq_getElem (show k < l.length by omega)]
      rw [this]
      simp only [Option.toList_some, List.map_append, List.map_cons, List.map_nil, List.sum_append, List.sum_cons, List.sum_nil]
      omega
  have := h F.ins F.ins.length (Nat.le_refl _)
  rw [this, List.take_length]
end Can
end Go.Proofs.Ytapcoeecjlkdgaa
