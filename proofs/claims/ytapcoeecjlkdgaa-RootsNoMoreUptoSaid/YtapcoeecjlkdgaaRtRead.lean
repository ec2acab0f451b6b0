/- Roots: read finds a row of ways to a reader, where there is one. -/
import Derived.Test.YtapcoeecjlkdgaaRtEnLaw
namespace Go.Proofs.Ytapcoeecjlkdgaa
namespace Can
open Go Go.RowKit
set_option linter.unusedSimpArgs false
set_option linter.unusedVariables false
set_option maxRecDepth 4000
/-- Live, by instructions of a set alone. -/
inductive LvU (F : Fn') (r : Nat) (S : Nat → Prop) : Nat → Prop where
  | read {j : Nat} (hs : S j) (hj : j < F.ins.length) (hr : (r : Int) ∈ readsF (F.ins.getD j default)) : LvU F r S j
  | step {j : Nat} {p : Int × List Int} (hs : S j) (hp : p ∈ waysF F j) (h : LvU F r S p.1.toNat) (hw : (r : Int) ∉ p.2) : LvU F r S j
theorem LvU.of {F : Fn'} {r j : Nat} (h : Lv F j r) : LvU F r (fun _ => True) j := by
  induction h with
  | read hj hr => exact .read trivial hj hr
  | step hp h hw ih => exact .step trivial hp ih hw
theorem LvU.at {F : Fn'} {r : Nat} {S : Nat → Prop} {j : Nat} (h : LvU F r S j) : S j := by
  cases h <;> assumption
/-- Without an instruction that does not read: from there, or from one of its ways. -/
theorem LvU.cut {F : Fn'} {r : Nat} {S : Nat → Prop} {a : Nat} (ha : (r : Int) ∉ readsF (F.ins.getD a default)) {x : Nat} (h : LvU F r S x) : LvU F r (fun j => S j ∧ j ≠ a) x ∨ ∃ p ∈ waysF F a, (r : Int) ∉ p.2 ∧ LvU F r (fun j => S j ∧ j ≠ a) p.1.toNat := by
  induction h with
  | @read j hs hj hr => exact .inl (.read ⟨hs, fun e => ha (e ▸ hr)⟩ hj hr)
  | @step j p hs hp h hw ih =>
    rcases ih with ih | ih
    · by_cases e : j = a
      · subst e; exact .inr ⟨p, hp, hw, ih⟩
      · exact .inl (.step ⟨hs, e⟩ hp ih hw)
    · exact .inr ih
theorem LvU.mono {F : Fn'} {r : Nat} {S S' : Nat → Prop} (hS : ∀ j, S j → S' j) {x : Nat} (h : LvU F r S x) : LvU F r S' x := by
  induction h with
  | read hs hj hr => exact .read (hS _ hs) hj hr
  | step hs hp h hw ih => exact .step (hS _ hs) hp ih hw
theorem lv_lt {F : Fn'} (hs : soundF F = true) {j r : Nat} (h : Lv F j r) : (r : Int) < F.regs := by
  induction h with
  | read hj hr => exact (reads_in hs hj hr).2
  | step hp h hw ih => exact ih
/-- How many are false. -/
def uns : List Bool → Nat
  | [] => 0
  | b :: l => (if b then 0 else 1) + uns l
theorem uns_set : ∀ {l : List Bool} {a : Nat}, l[a]? = some false → uns (l.set a true) + 1 = uns l
  | [], a, h => by simp at h
  | b :: l, 0, h => by
    simp at h; subst h
    simp [uns]; omega
  | b :: l, a + 1, h => by
    have := uns_set (l := l) (a := a) (by simpa using h)
    simp [uns]; omega
theorem uns_rep (n : Nat) : uns (List.replicate n false) = n := by
  induction n with
  | zero => rfl
  | succ n ih => rw [List.replicate_succ]; simp [uns, ih]; omega
/-- A stack of numbers in own memory. -/
def TD (lo : Nat) (K : CH) (v : Value) (td : List Nat) : Prop :=
  ∃ l c cs kd, v = .slice (some ⟨l, 0, none⟩) td.length c ∧ K.ob l = .cells cs 3 kd ∧ kd.isRo = false ∧ td.length ≤ cs.length ∧ td.length ≤ c ∧ c ≤ 9223372036854775807 ∧ lo ≤ l ∧ l < K.nx ∧ cs.take td.length = td.map fun (x : Nat) => .int .i64 (x : Int)
theorem take_last {α : Type} {cs : List α} {n : Nat} {xs : List α} {x : α} (h : cs.take (n + 1) = xs ++ [x]) (hl : xs.length = n) : cs[n]? = some x ∧ cs.take n = xs := by
  constructor
  · have h1 : (cs.take (n + 1))[n]? = some x := by rw [h, List.getElem?_append_right (by omega), hl]; simp
    rw [List.getElem?_take_of_lt (by omega)] at h1
    exact h1
  · have h1 : cs.take n = (cs.take (n + 1)).take n := by rw [List.take_take, Nat.min_eq_left (by omega)]
    rw [h1, h, List.take_append_of_le_length (by omega), List.take_of_length_le (by omega)]
theorem td_app {lo : Nat} {K : CH} {v : Value} {td : List Nat} (h : TD lo K v td) {x : Nat} (hb : td.length ≤ 16777216) {Q : Value → CH → Prop}
    (k : ∀ v' K', TD lo K' v' (td ++ [x]) → K.nx ≤ K'.nx → (∀ y, y < K.nx → (∀ o n c, v ≠ .slice (some ⟨y, o, none⟩) n c) → K'.ob y = K.ob y) → (∀ y o n c, v' = .slice (some ⟨y, o, none⟩) n c → K.nx ≤ y) → Q v' K') :
    optW (appV 3 1 8 v [.int .i64 (x : Int)] 1 K) Q := by
  obtain ⟨l, c, cs, kd, rfl, hob, hk, h1, h2, h3, h4, h5, h6⟩ := h
  rw [appV_r, hob, appR_c, if_neg (by decide), if_pos ⟨rfl, rfl, hk, by omega, by simp [isCell], by omega, by rw [maxLen_eq]; omega⟩, optW_some]
  rw [Nat.mul_one, h6]
  have hnx : ∀ o, (appH (kd.isEx && decide (c < td.length + 1)) K l o).nx = K.nx + 1 := fun o => by unfold appH; split <;> rfl
  have hat : ∀ o, (appH (kd.isEx && decide (c < td.length + 1)) K l o).ob K.nx = o := fun o => by
    unfold appH; split <;> (simp only [CH.new, CH.set]; simp)
  have hot : ∀ o y, y < K.nx → y ≠ l → (appH (kd.isEx && decide (c < td.length + 1)) K l o).ob y = K.ob y := fun o y hl hb => by
    unfold appH
    split
    · rw [new_get, if_neg (by omega)]
    · rw [new_get, if_neg (by show y ≠ K.nx; omega), set_get, if_neg hb]
  refine k _ _ ⟨K.nx, td.length + 1, _, .gr, by simp, hat _, rfl, by simp, by simp, by omega, by omega, by rw [hnx]; omega, by rw [List.take_of_length_le (by simp)]; simp⟩ (by rw [hnx]; omega) (fun y hy hv => hot _ y hy fun e => hv 0 td.length c (by rw [e])) (fun y o n c e => by cases e; exact Nat.le_refl _)
theorem TD.mv {lo : Nat} {K K' : CH} {v : Value} {td : List Nat} (h : TD lo K v td) (hn : K.nx ≤ K'.nx) (hk : ∀ y o n c, v = .slice (some ⟨y, o, none⟩) n c → y < K.nx → K'.ob y = K.ob y) : TD lo K' v td := by
  obtain ⟨l, c, cs, kd, rfl, hob, h0, h1, h2, h3, h4, h5, h6⟩ := h
  exact ⟨l, c, cs, kd, rfl, (hk l _ _ _ rfl h5).trans hob, h0, h1, h2, h3, h4, by omega, h6⟩
theorem TD.row {lo : Nat} {K : CH} {v : Value} {td : List Nat} (h : TD lo K v td) {y o n c : Nat} (hv : v = .slice (some ⟨y, o, none⟩) n c) : lo ≤ y ∧ y < K.nx := by
  obtain ⟨l, c, cs, kd, rfl, hob, h0, h1, h2, h3, h4, h5, h6⟩ := h
  cases hv; exact ⟨h4, h5⟩
set_option maxHeartbeats 4000000 in
theorem read_wp {H : CH} {F : Fn'} {A : FnA} (hF : FnOk H F A) (hnn : F.ins.length ≤ 1048576) (hsd : soundF F = true) {x0 r : Nat} (hx0 : x0 < F.ins.length) (hlv : Lv F x0 r) :
    WpF (tblG Try.prog LG GG) 20 [.agg (fnC F A).toArray, .int .i64 (x0 : Int), .int .i64 (r : Int)] H fun v K => v = .bool true ∧ HExt H K := by
  have hrl := lv_lt hsd hlv
  obtain ⟨n, hn⟩ : ∃ n, F.ins.length = n := ⟨_, rfl⟩
  have hz := zeros_bools n
  refine wpF_rG (by rfl) (by kernel_rfl) ?_; (conv in (rF _ _).body => reduce); (conv in (rF _ _).res => reduce)
  repeat' (first | (simp (disch := first | omega | (decide +kernel) | (repeat (first | assumption | exact HExt.refl _ | (refine HExt.set ?_ (by first | omega | (simp only [new_nx, set_nx]; omega)) _) | (refine HExt.new ?_ _)))) only [↓RD, RU, accW_t, accW_f, isW, ↓putF_get, ↓putF_none, ↓evF_t, ↓evF_c, ↓evF_f, new_nx, set_nx, new_get, set_get, getD_zero, getD_succ, u_not, pop, lop, aop, wop, resL, resV, tupleV, akV, isVal, isCell, Value.cells, List.map_cons, List.map_nil, Bool.not_true, Bool.not_false, Option.map_some, ↓reduceIte, Nat.reduceEqDiff, Nat.reduceAdd, Int.reduceOfNat, Int.reduceNegSucc, reduceCtorEq, List.getElem?_cons_zero, List.getElem?_cons_succ, List.length_cons, List.length_nil, srcR_c, src_n, src_v, src_s, bnd, lenV, capV, Option.isSome_none, Option.isNone_none, Option.isSome_some, Option.isNone_some, Bool.true_or, Bool.false_or, List.take_succ_cons, List.take_zero, List.drop_succ_cons, List.drop_zero, List.cons_append, List.nil_append, List.drop_nil, List.all_cons, List.all_nil, Bool.true_and, Kd.isRo, List.size_toArray, List.toList_toArray, bldV, Nat.reduceLeDiff, Int.reduceMul, Int.reduceAdd, Int.reduceSub, Int.reduceToNat, maxLen_eq, zeros_one, appS_some, appV_n, appV_v, appH_t, appH_f, Kd.isEx, Bool.false_and, partV, Nat.add_zero, Int.toNat_natCast, fnC, hn, hz]) | (with_reducible refine condK_dec (fun _ => ?_) (fun _ => ?_)) | (with_reducible refine grd_dec (fun _ => ?_) (fun _ => ?_)) | (with_reducible refine egrd_dec (fun _ => ?_) (fun _ => ?_)))
  refine loop_w (fun m fr K => ∃ (sn : List Bool) (td : List Nat), m = 4 * uns sn + td.length ∧ 4 * uns sn + td.length ≤ 4 * n + 1 ∧ HExt H K ∧ H.nx + 3 ≤ K.nx ∧ K.ob H.nx = .cells (fnC F A) 27 .ex ∧ K.ob (H.nx + 1) = .cells (bools sn) 4 .ex ∧ sn.length = n ∧ TD (H.nx + 2) K (fr 8) td ∧ (∀ x ∈ td, x < n) ∧ ∃ x ∈ td, LvU F r (fun j => sn[j]? = some false) x) (n := 4 * n + 1)
    ⟨List.replicate n false, [x0], by rw [uns_rep]; rfl, by rw [uns_rep]; simp, by (repeat (first | assumption | exact HExt.refl _ | (refine HExt.set ?_ (by first | omega | (simp only [new_nx, set_nx]; omega)) _) | (refine HExt.new ?_ _))), by simp only [new_nx]; omega, by simp only [new_get, new_nx]; rw [if_neg (by omega), if_neg (by omega)]; simp [fnC, hn], by repeat' (first | (simp (disch := first | omega | (decide +kernel) | (repeat (first | assumption | exact HExt.refl _ | (refine HExt.set ?_ (by first | omega | (simp only [new_nx, set_nx]; omega)) _) | (refine HExt.new ?_ _)))) only [↓RD, RU, accW_t, accW_f, isW, ↓putF_get, ↓putF_none, ↓evF_t, ↓evF_c, ↓evF_f, new_nx, set_nx, new_get, set_get, getD_zero, getD_succ, u_not, pop, lop, aop, wop, resL, resV, tupleV, akV, isVal, isCell, Value.cells, List.map_cons, List.map_nil, Bool.not_true, Bool.not_false, Option.map_some, ↓reduceIte, Nat.reduceEqDiff, Nat.reduceAdd, Int.reduceOfNat, Int.reduceNegSucc, reduceCtorEq, List.getElem?_cons_zero, List.getElem?_cons_succ, List.length_cons, List.length_nil, srcR_c, src_n, src_v, src_s, bnd, lenV, capV, Option.isSome_none, Option.isNone_none, Option.isSome_some, Option.isNone_some, Bool.true_or, Bool.false_or, List.take_succ_cons, List.take_zero, List.drop_succ_cons, List.drop_zero, List.cons_append, List.nil_append, List.drop_nil, List.all_cons, List.all_nil, Bool.true_and, Kd.isRo, List.size_toArray, List.toList_toArray, bldV, Nat.reduceLeDiff, Int.reduceMul, Int.reduceAdd, Int.reduceSub, Int.reduceToNat, maxLen_eq, zeros_one, appS_some, appV_n, appV_v, appH_t, appH_f, Kd.isEx, Bool.false_and, partV, Nat.add_zero, Int.toNat_natCast]) | (with_reducible refine condK_dec (fun _ => ?_) (fun _ => ?_)) | (with_reducible refine grd_dec (fun _ => ?_) (fun _ => ?_)) | (with_reducible refine egrd_dec (fun _ => ?_) (fun _ => ?_))), by simp, ?_, fun x hx => by simp at hx; omega, x0, by simp, ?_⟩ ?_
  · refine ⟨H.nx + 2, 1, [.int .i64 (x0 : Int)], .ex, by (repeat' (first | (simp (disch := first | omega | (decide +kernel) | (repeat (first | assumption | exact HExt.refl _ | (refine HExt.set ?_ (by first | omega | (simp only [new_nx, set_nx]; omega)) _) | (refine HExt.new ?_ _)))) only [↓RD, RU, accW_t, accW_f, isW, ↓putF_get, ↓putF_none, ↓evF_t, ↓evF_c, ↓evF_f, new_nx, set_nx, new_get, set_get, getD_zero, getD_succ, u_not, pop, lop, aop, wop, resL, resV, tupleV, akV, isVal, isCell, Value.cells, List.map_cons, List.map_nil, Bool.not_true, Bool.not_false, Option.map_some, ↓reduceIte, Nat.reduceEqDiff, Nat.reduceAdd, Int.reduceOfNat, Int.reduceNegSucc, reduceCtorEq, List.getElem?_cons_zero, List.getElem?_cons_succ, List.length_cons, List.length_nil, srcR_c, src_n, src_v, src_s, bnd, lenV, capV, Option.isSome_none, Option.isNone_none, Option.isSome_some, Option.isNone_some, Bool.true_or, Bool.false_or, List.take_succ_cons, List.take_zero, List.drop_succ_cons, List.drop_zero, List.cons_append, List.nil_append, List.drop_nil, List.all_cons, List.all_nil, Bool.true_and, Kd.isRo, List.size_toArray, List.toList_toArray, bldV, Nat.reduceLeDiff, Int.reduceMul, Int.reduceAdd, Int.reduceSub, Int.reduceToNat, maxLen_eq, zeros_one, appS_some, appV_n, appV_v, appH_t, appH_f, Kd.isEx, Bool.false_and, partV, Nat.add_zero, Int.toNat_natCast]) | (with_reducible refine condK_dec (fun _ => ?_) (fun _ => ?_)) | (with_reducible refine grd_dec (fun _ => ?_) (fun _ => ?_)) | (with_reducible refine egrd_dec (fun _ => ?_) (fun _ => ?_)))); all_goals rfl, by (repeat' (first | (simp (disch := first | omega | (decide +kernel) | (repeat (first | assumption | exact HExt.refl _ | (refine HExt.set ?_ (by first | omega | (simp only [new_nx, set_nx]; omega)) _) | (refine HExt.new ?_ _)))) only [↓RD, RU, accW_t, accW_f, isW, ↓putF_get, ↓putF_none, ↓evF_t, ↓evF_c, ↓evF_f, new_nx, set_nx, new_get, set_get, getD_zero, getD_succ, u_not, pop, lop, aop, wop, resL, resV, tupleV, akV, isVal, isCell, Value.cells, List.map_cons, List.map_nil, Bool.not_true, Bool.not_false, Option.map_some, ↓reduceIte, Nat.reduceEqDiff, Nat.reduceAdd, Int.reduceOfNat, Int.reduceNegSucc, reduceCtorEq, List.getElem?_cons_zero, List.getElem?_cons_succ, List.length_cons, List.length_nil, srcR_c, src_n, src_v, src_s, bnd, lenV, capV, Option.isSome_none, Option.isNone_none, Option.isSome_some, Option.isNone_some, Bool.true_or, Bool.false_or, List.take_succ_cons, List.take_zero, List.drop_succ_cons, List.drop_zero, List.cons_append, List.nil_append, List.drop_nil, List.all_cons, List.all_nil, Bool.true_and, Kd.isRo, List.size_toArray, List.toList_toArray, bldV, Nat.reduceLeDiff, Int.reduceMul, Int.reduceAdd, Int.reduceSub, Int.reduceToNat, maxLen_eq, zeros_one, appS_some, appV_n, appV_v, appH_t, appH_f, Kd.isEx, Bool.false_and, partV, Nat.add_zero, Int.toNat_natCast]) | (with_reducible refine condK_dec (fun _ => ?_) (fun _ => ?_)) | (with_reducible refine grd_dec (fun _ => ?_) (fun _ => ?_)) | (with_reducible refine egrd_dec (fun _ => ?_) (fun _ => ?_)))); all_goals rfl, rfl, by simp, by simp, by omega, Nat.le_refl _, (by first | omega | (simp only [new_nx, set_nx]; omega)), by simp⟩
  · have hlen : ∀ j, LvU F r (fun _ => True) j → LvU F r (fun j => (List.replicate n false)[j]? = some false) j := by
      intro j h
      induction h with
      | @read j hs hj hr => exact .read (by rw [List.getElem?_replicate, if_pos (by omega)]) hj hr
      | @step j p hs hp h hw ih =>
        refine .step ?_ hp ih hw
        have : j < F.ins.length := by
          unfold waysF at hp
          split at hp
          · omega
          · cases hp
        rw [List.getElem?_replicate, if_pos (by omega)]
    exact hlen _ (LvU.of hlv)
  rintro m fr K ⟨sn, td, rfl, hB, hx, hKn, hb, hrow, hsl, hT, htd, xw, hxw, hU⟩ hag
  obtain ⟨tr, a, rfl⟩ : ∃ tr a, td = tr ++ [a] := ⟨td.dropLast, td.getLast (fun e => by rw [e] at hxw; cases hxw), (List.dropLast_concat_getLast _).symm⟩
  obtain ⟨l, c, cs, kd, f8, hob, hk, h1, h2, h3, h4, h5, h6⟩ := hT
  simp only [List.length_append, List.length_singleton, List.map_append, List.map_cons, List.map_nil] at f8 h1 h2 h6 hB
  obtain ⟨hga, htk⟩ := take_last h6 (by simp)
  have han : a < n := htd a (by simp)
  have e1 : ((tr.length : Int) + 1 - 1) = (tr.length : Int) := by omega
  have hslv : sliceV 1 (.slice (some ⟨l, 0, none⟩) (tr.length + 1) c) 0 (tr.length : Int) (c : Int) false = some (.slice (some ⟨l, 0, none⟩) tr.length c) := by
    unfold sliceV
    simp only [Bool.false_eq_true, if_false]
    rw [if_pos (by omega), if_neg (by omega)]
    simp
  have hok : okSl K 3 (.slice (some ⟨l, 0, none⟩) (tr.length + 1) c) = true := by
    simp only [okSl, hob]; cases kd <;> simp
  have hbg := bools_get (bs := sn) (i := a) (by omega)
  have hTr : TD (H.nx + 2) K (.slice (some ⟨l, 0, none⟩) tr.length c) tr := ⟨l, c, cs, kd, rfl, hob, hk, by omega, by omega, h3, h4, h5, htk⟩
  cases hsa : sn.getD a false with
  | true =>
    rw [hsa] at hbg
    repeat' (first | (simp (disch := first | omega | (decide +kernel) | (repeat (first | assumption | exact HExt.refl _ | (refine HExt.set ?_ (by first | omega | (simp only [new_nx, set_nx]; omega)) _) | (refine HExt.new ?_ _)))) only [↓RD, RU, accW_t, accW_f, isW, ↓putF_get, ↓putF_none, ↓evF_t, ↓evF_c, ↓evF_f, new_nx, set_nx, new_get, set_get, getD_zero, getD_succ, u_not, pop, lop, aop, wop, resL, resV, tupleV, akV, isVal, isCell, Value.cells, List.map_cons, List.map_nil, Bool.not_true, Bool.not_false, Option.map_some, ↓reduceIte, Nat.reduceEqDiff, Nat.reduceAdd, Int.reduceOfNat, Int.reduceNegSucc, reduceCtorEq, List.getElem?_cons_zero, List.getElem?_cons_succ, List.length_cons, List.length_nil, srcR_c, src_n, src_v, src_s, bnd, lenV, capV, Option.isSome_none, Option.isNone_none, Option.isSome_some, Option.isNone_some, Bool.true_or, Bool.false_or, List.take_succ_cons, List.take_zero, List.drop_succ_cons, List.drop_zero, List.cons_append, List.nil_append, List.drop_nil, List.all_cons, List.all_nil, Bool.true_and, Kd.isRo, List.size_toArray, List.toList_toArray, bldV, Nat.reduceLeDiff, Int.reduceMul, Int.reduceAdd, Int.reduceSub, Int.reduceToNat, maxLen_eq, zeros_one, appS_some, appV_n, appV_v, appH_t, appH_f, Kd.isEx, Bool.false_and, partV, Nat.add_zero, Int.toNat_natCast, f8, hag, e1, hob, hga, hslv, hok, hrow, hbg, Int.natCast_add, Int.cast_ofNat_Int]) | (with_reducible refine condK_dec (fun _ => ?_) (fun _ => ?_)) | (with_reducible refine grd_dec (fun _ => ?_) (fun _ => ?_)) | (with_reducible refine egrd_dec (fun _ => ?_) (fun _ => ?_)))
    refine ⟨_, by simp, sn, tr, rfl, by omega, hx, hKn, hb, rfl, hsl, hTr, fun x hx => htd x (by simp [hx]), xw, ?_, hU⟩
    rcases List.mem_append.1 hxw with h | h
    · exact h
    · simp at h; subst h
      have := hU.at
      simp [List.getD, this] at hsa
  | false =>
    rw [hsa] at hbg
    have hsa' : sn[a]? = some false := by
      have : a < sn.length := by omega
      simp only [List.getD, List.getElem?_eq_getElem this, Option.getD_some] at hsa
      rw [List.getElem?_eq_getElem this, hsa]
    have hun := uns_set hsa'
    have hset := bools_set (bs := sn) (i := a) (b := true) (by omega)
    obtain ⟨li, o, os, e, kdi, hqi, hl1, hc, hm, hobi, hol, q, ci, hcs, hsl2, hio⟩ := hF.ins.el (show a < F.ins.length by omega)
    have hobK := (hx.ob li hl1).trans hobi
    have hq2 : A.qi = some ⟨li, o, none⟩ := hqi
    have hg := getD_at (show a < F.ins.length by omega)
    have hlen := hio.len
    have hrw := rw_len (i := F.ins[a])
    rw [reach_eq] at hlen
    repeat' (first | (simp (disch := first | omega | (decide +kernel) | (repeat (first | assumption | exact HExt.refl _ | (refine HExt.set ?_ (by first | omega | (simp only [new_nx, set_nx]; omega)) _) | (refine HExt.new ?_ _)))) only [↓RD, RU, accW_t, accW_f, isW, ↓putF_get, ↓putF_none, ↓evF_t, ↓evF_c, ↓evF_f, new_nx, set_nx, new_get, set_get, getD_zero, getD_succ, u_not, pop, lop, aop, wop, resL, resV, tupleV, akV, isVal, isCell, Value.cells, List.map_cons, List.map_nil, Bool.not_true, Bool.not_false, Option.map_some, ↓reduceIte, Nat.reduceEqDiff, Nat.reduceAdd, Int.reduceOfNat, Int.reduceNegSucc, reduceCtorEq, List.getElem?_cons_zero, List.getElem?_cons_succ, List.length_cons, List.length_nil, srcR_c, src_n, src_v, src_s, bnd, lenV, capV, Option.isSome_none, Option.isNone_none, Option.isSome_some, Option.isNone_some, Bool.true_or, Bool.false_or, List.take_succ_cons, List.take_zero, List.drop_succ_cons, List.drop_zero, List.cons_append, List.nil_append, List.drop_nil, List.all_cons, List.all_nil, Bool.true_and, Kd.isRo, List.size_toArray, List.toList_toArray, bldV, Nat.reduceLeDiff, Int.reduceMul, Int.reduceAdd, Int.reduceSub, Int.reduceToNat, maxLen_eq, zeros_one, appS_some, appV_n, appV_v, appH_t, appH_f, Kd.isEx, Bool.false_and, partV, Nat.add_zero, Int.toNat_natCast, f8, hag, e1, hob, hga, hslv, hok, hrow, hbg, Int.natCast_add, Int.cast_ofNat_Int, bools_len, hsl, ↓hset, fnC, hb, hobK, hcs, insC, hq2, hn]) | (with_reducible refine condK_dec (fun _ => ?_) (fun _ => ?_)) | (with_reducible refine grd_dec (fun _ => ?_) (fun _ => ?_)) | (with_reducible refine egrd_dec (fun _ => ?_) (fun _ => ?_)))
    have hxs : HExt H (K.set (H.nx + 1) (.cells (bools (sn.set a true)) 4 .ex)) := by (repeat (first | assumption | exact HExt.refl _ | (refine HExt.set ?_ (by first | omega | (simp only [new_nx, set_nx]; omega)) _) | (refine HExt.new ?_ _)))
    have hbs : (K.set (H.nx + 1) (.cells (bools (sn.set a true)) 4 .ex)).ob H.nx = .cells (fnC F A) 27 .ex := by repeat' (first | (simp (disch := first | omega | (decide +kernel) | (repeat (first | assumption | exact HExt.refl _ | (refine HExt.set ?_ (by first | omega | (simp only [new_nx, set_nx]; omega)) _) | (refine HExt.new ?_ _)))) only [↓RD, RU, accW_t, accW_f, isW, ↓putF_get, ↓putF_none, ↓evF_t, ↓evF_c, ↓evF_f, new_nx, set_nx, new_get, set_get, getD_zero, getD_succ, u_not, pop, lop, aop, wop, resL, resV, tupleV, akV, isVal, isCell, Value.cells, List.map_cons, List.map_nil, Bool.not_true, Bool.not_false, Option.map_some, ↓reduceIte, Nat.reduceEqDiff, Nat.reduceAdd, Int.reduceOfNat, Int.reduceNegSucc, reduceCtorEq, List.getElem?_cons_zero, List.getElem?_cons_succ, List.length_cons, List.length_nil, srcR_c, src_n, src_v, src_s, bnd, lenV, capV, Option.isSome_none, Option.isNone_none, Option.isSome_some, Option.isNone_some, Bool.true_or, Bool.false_or, List.take_succ_cons, List.take_zero, List.drop_succ_cons, List.drop_zero, List.cons_append, List.nil_append, List.drop_nil, List.all_cons, List.all_nil, Bool.true_and, Kd.isRo, List.size_toArray, List.toList_toArray, bldV, Nat.reduceLeDiff, Int.reduceMul, Int.reduceAdd, Int.reduceSub, Int.reduceToNat, maxLen_eq, zeros_one, appS_some, appV_n, appV_v, appH_t, appH_f, Kd.isEx, Bool.false_and, partV, Nat.add_zero, Int.toNat_natCast, hb]) | (with_reducible refine condK_dec (fun _ => ?_) (fun _ => ?_)) | (with_reducible refine grd_dec (fun _ => ?_) (fun _ => ?_)) | (with_reducible refine egrd_dec (fun _ => ?_) (fun _ => ?_)))
    have hrs : (K.set (H.nx + 1) (.cells (bools (sn.set a true)) 4 .ex)).ob (H.nx + 1) = .cells (bools (sn.set a true)) 4 .ex := by repeat' (first | (simp (disch := first | omega | (decide +kernel) | (repeat (first | assumption | exact HExt.refl _ | (refine HExt.set ?_ (by first | omega | (simp only [new_nx, set_nx]; omega)) _) | (refine HExt.new ?_ _)))) only [↓RD, RU, accW_t, accW_f, isW, ↓putF_get, ↓putF_none, ↓evF_t, ↓evF_c, ↓evF_f, new_nx, set_nx, new_get, set_get, getD_zero, getD_succ, u_not, pop, lop, aop, wop, resL, resV, tupleV, akV, isVal, isCell, Value.cells, List.map_cons, List.map_nil, Bool.not_true, Bool.not_false, Option.map_some, ↓reduceIte, Nat.reduceEqDiff, Nat.reduceAdd, Int.reduceOfNat, Int.reduceNegSucc, reduceCtorEq, List.getElem?_cons_zero, List.getElem?_cons_succ, List.length_cons, List.length_nil, srcR_c, src_n, src_v, src_s, bnd, lenV, capV, Option.isSome_none, Option.isNone_none, Option.isSome_some, Option.isNone_some, Bool.true_or, Bool.false_or, List.take_succ_cons, List.take_zero, List.drop_succ_cons, List.drop_zero, List.cons_append, List.nil_append, List.drop_nil, List.all_cons, List.all_nil, Bool.true_and, Kd.isRo, List.size_toArray, List.toList_toArray, bldV, Nat.reduceLeDiff, Int.reduceMul, Int.reduceAdd, Int.reduceSub, Int.reduceToNat, maxLen_eq, zeros_one, appS_some, appV_n, appV_v, appH_t, appH_f, Kd.isEx, Bool.false_and, partV, Nat.add_zero, Int.toNat_natCast]) | (with_reducible refine condK_dec (fun _ => ?_) (fun _ => ?_)) | (with_reducible refine grd_dec (fun _ => ?_) (fun _ => ?_)) | (with_reducible refine egrd_dec (fun _ => ?_) (fun _ => ?_)))
    have hTs : TD (H.nx + 2) (K.set (H.nx + 1) (.cells (bools (sn.set a true)) 4 .ex)) (.slice (some ⟨l, 0, none⟩) tr.length c) tr := hTr.mv (Nat.le_refl _) fun y o n c e _ => by cases e; rw [set_get, if_neg (by omega)]
    have hns : (K.set (H.nx + 1) (.cells (bools (sn.set a true)) 4 .ex)).nx = K.nx := rfl
    generalize (K.set (H.nx + 1) (.cells (bools (sn.set a true)) 4 .ex)) = Ks at hxs hbs hrs hTs hns ⊢
    refine (rreads_wp hio (hsl2.good (CInt.good _) hxs)).mono fun v2 K2 ⟨hx2, hg2⟩ => ?_
    obtain ⟨q2, c2, hv2, hs2⟩ := hg2.sl (by omega) (reads_ok hio).1
    subst hv2
    obtain ⟨rs, hrse⟩ : ∃ rs, readsF F.ins[a] = rs := ⟨_, rfl⟩
    rw [hrse] at hs2 hrw ⊢
    have hn2 := hx2.nx
    have hxH2 := hxs.trans hx2
    have hb2 := (hx2.ob H.nx (by omega)).trans hbs
    have hrow2 := (hx2.ob (H.nx + 1) (by omega)).trans hrs
    have hT2 : TD (H.nx + 2) K2 (.slice (some ⟨l, 0, none⟩) tr.length c) tr := hTs.mv hn2 fun y o n c _ hy => hx2.ob y hy
    repeat' (first | (simp (disch := first | omega | (decide +kernel) | (repeat (first | assumption | exact HExt.refl _ | (refine HExt.set ?_ (by first | omega | (simp only [new_nx, set_nx]; omega)) _) | (refine HExt.new ?_ _)))) only [↓RD, RU, accW_t, accW_f, isW, ↓putF_get, ↓putF_none, ↓evF_t, ↓evF_c, ↓evF_f, new_nx, set_nx, new_get, set_get, getD_zero, getD_succ, u_not, pop, lop, aop, wop, resL, resV, tupleV, akV, isVal, isCell, Value.cells, List.map_cons, List.map_nil, Bool.not_true, Bool.not_false, Option.map_some, ↓reduceIte, Nat.reduceEqDiff, Nat.reduceAdd, Int.reduceOfNat, Int.reduceNegSucc, reduceCtorEq, List.getElem?_cons_zero, List.getElem?_cons_succ, List.length_cons, List.length_nil, srcR_c, src_n, src_v, src_s, bnd, lenV, capV, Option.isSome_none, Option.isNone_none, Option.isSome_some, Option.isNone_some, Bool.true_or, Bool.false_or, List.take_succ_cons, List.take_zero, List.drop_succ_cons, List.drop_zero, List.cons_append, List.nil_append, List.drop_nil, List.all_cons, List.all_nil, Bool.true_and, Kd.isRo, List.size_toArray, List.toList_toArray, bldV, Nat.reduceLeDiff, Int.reduceMul, Int.reduceAdd, Int.reduceSub, Int.reduceToNat, maxLen_eq, zeros_one, appS_some, appV_n, appV_v, appH_t, appH_f, Kd.isEx, Bool.false_and, partV, Nat.add_zero, Int.toNat_natCast]) | (with_reducible refine condK_dec (fun _ => ?_) (fun _ => ?_)) | (with_reducible refine grd_dec (fun _ => ?_) (fun _ => ?_)) | (with_reducible refine egrd_dec (fun _ => ?_) (fun _ => ?_)))
    refine loop_w (fun m fr G => ∃ i : Nat, m = rs.length - i ∧ i ≤ rs.length ∧ fr 11 = .int .i64 (i : Int) ∧ G = K2 ∧ ∀ j, j < i → rs.getD j 0 ≠ (r : Int)) ⟨0, rfl, Nat.zero_le _, by repeat' (first | (simp (disch := first | omega | (decide +kernel) | (repeat (first | assumption | exact HExt.refl _ | (refine HExt.set ?_ (by first | omega | (simp only [new_nx, set_nx]; omega)) _) | (refine HExt.new ?_ _)))) only [↓RD, RU, accW_t, accW_f, isW, ↓putF_get, ↓putF_none, ↓evF_t, ↓evF_c, ↓evF_f, new_nx, set_nx, new_get, set_get, getD_zero, getD_succ, u_not, pop, lop, aop, wop, resL, resV, tupleV, akV, isVal, isCell, Value.cells, List.map_cons, List.map_nil, Bool.not_true, Bool.not_false, Option.map_some, ↓reduceIte, Nat.reduceEqDiff, Nat.reduceAdd, Int.reduceOfNat, Int.reduceNegSucc, reduceCtorEq, List.getElem?_cons_zero, List.getElem?_cons_succ, List.length_cons, List.length_nil, srcR_c, src_n, src_v, src_s, bnd, lenV, capV, Option.isSome_none, Option.isNone_none, Option.isSome_some, Option.isNone_some, Bool.true_or, Bool.false_or, List.take_succ_cons, List.take_zero, List.drop_succ_cons, List.drop_zero, List.cons_append, List.nil_append, List.drop_nil, List.all_cons, List.all_nil, Bool.true_and, Kd.isRo, List.size_toArray, List.toList_toArray, bldV, Nat.reduceLeDiff, Int.reduceMul, Int.reduceAdd, Int.reduceSub, Int.reduceToNat, maxLen_eq, zeros_one, appS_some, appV_n, appV_v, appH_t, appH_f, Kd.isEx, Bool.false_and, partV, Nat.add_zero, Int.toNat_natCast]) | (with_reducible refine condK_dec (fun _ => ?_) (fun _ => ?_)) | (with_reducible refine grd_dec (fun _ => ?_) (fun _ => ?_)) | (with_reducible refine egrd_dec (fun _ => ?_) (fun _ => ?_))); rfl, rfl, fun j hj => absurd hj (Nat.not_lt_zero _)⟩ ?_
    rintro m fr2 G ⟨i, rfl, hi, f11, rfl, hnr⟩ hag2
    by_cases hil : i < rs.length
    case pos =>
      obtain ⟨l2, o2, os2, e2, kd2, hq2', hl2, hc2, hm2, hob2, hol2, hos2, hwf2⟩ := hs2.ints (by omega)
      subst hq2'
      rw [maxLen_eq] at hm2
      have hrc := hos2 i hil
      by_cases her : rs.getD i 0 = (r : Int)
      · rw [her] at hrc
        repeat' (first | (simp (disch := first | omega | (decide +kernel) | (repeat (first | assumption | exact HExt.refl _ | (refine HExt.set ?_ (by first | omega | (simp only [new_nx, set_nx]; omega)) _) | (refine HExt.new ?_ _)))) only [↓RD, RU, accW_t, accW_f, isW, ↓putF_get, ↓putF_none, ↓evF_t, ↓evF_c, ↓evF_f, new_nx, set_nx, new_get, set_get, getD_zero, getD_succ, u_not, pop, lop, aop, wop, resL, resV, tupleV, akV, isVal, isCell, Value.cells, List.map_cons, List.map_nil, Bool.not_true, Bool.not_false, Option.map_some, ↓reduceIte, Nat.reduceEqDiff, Nat.reduceAdd, Int.reduceOfNat, Int.reduceNegSucc, reduceCtorEq, List.getElem?_cons_zero, List.getElem?_cons_succ, List.length_cons, List.length_nil, srcR_c, src_n, src_v, src_s, bnd, lenV, capV, Option.isSome_none, Option.isNone_none, Option.isSome_some, Option.isNone_some, Bool.true_or, Bool.false_or, List.take_succ_cons, List.take_zero, List.drop_succ_cons, List.drop_zero, List.cons_append, List.nil_append, List.drop_nil, List.all_cons, List.all_nil, Bool.true_and, Kd.isRo, List.size_toArray, List.toList_toArray, bldV, Nat.reduceLeDiff, Int.reduceMul, Int.reduceAdd, Int.reduceSub, Int.reduceToNat, maxLen_eq, zeros_one, appS_some, appV_n, appV_v, appH_t, appH_f, Kd.isEx, Bool.false_and, partV, Nat.add_zero, Int.toNat_natCast, f11, hag2, hag, hob2, hrc]) | (with_reducible refine condK_dec (fun _ => ?_) (fun _ => ?_)) | (with_reducible refine grd_dec (fun _ => ?_) (fun _ => ?_)) | (with_reducible refine egrd_dec (fun _ => ?_) (fun _ => ?_)))
        all_goals first | exact hxH2 | exact ⟨rfl, hxH2⟩
      · repeat' (first | (simp (disch := first | omega | (decide +kernel) | (repeat (first | assumption | exact HExt.refl _ | (refine HExt.set ?_ (by first | omega | (simp only [new_nx, set_nx]; omega)) _) | (refine HExt.new ?_ _)))) only [↓RD, RU, accW_t, accW_f, isW, ↓putF_get, ↓putF_none, ↓evF_t, ↓evF_c, ↓evF_f, new_nx, set_nx, new_get, set_get, getD_zero, getD_succ, u_not, pop, lop, aop, wop, resL, resV, tupleV, akV, isVal, isCell, Value.cells, List.map_cons, List.map_nil, Bool.not_true, Bool.not_false, Option.map_some, ↓reduceIte, Nat.reduceEqDiff, Nat.reduceAdd, Int.reduceOfNat, Int.reduceNegSucc, reduceCtorEq, List.getElem?_cons_zero, List.getElem?_cons_succ, List.length_cons, List.length_nil, srcR_c, src_n, src_v, src_s, bnd, lenV, capV, Option.isSome_none, Option.isNone_none, Option.isSome_some, Option.isNone_some, Bool.true_or, Bool.false_or, List.take_succ_cons, List.take_zero, List.drop_succ_cons, List.drop_zero, List.cons_append, List.nil_append, List.drop_nil, List.all_cons, List.all_nil, Bool.true_and, Kd.isRo, List.size_toArray, List.toList_toArray, bldV, Nat.reduceLeDiff, Int.reduceMul, Int.reduceAdd, Int.reduceSub, Int.reduceToNat, maxLen_eq, zeros_one, appS_some, appV_n, appV_v, appH_t, appH_f, Kd.isEx, Bool.false_and, partV, Nat.add_zero, Int.toNat_natCast, f11, hag2, hag, hob2, hrc]) | (with_reducible refine condK_dec (fun _ => ?_) (fun _ => ?_)) | (with_reducible refine grd_dec (fun _ => ?_) (fun _ => ?_)) | (with_reducible refine egrd_dec (fun _ => ?_) (fun _ => ?_)))
        refine ⟨_, by omega, i + 1, rfl, by omega, rfl, fun j hj => ?_⟩
        by_cases e : j = i
        · subst e; exact her
        · exact hnr j (by omega)
    have hnot : (r : Int) ∉ readsF (F.ins.getD a default) := by
      rw [hg, hrse]
      intro hm
      obtain ⟨j, hj, hjr⟩ := List.getElem_of_mem hm
      exact hnr j (by omega) (by rw [List.getD_eq_getElem?_getD, List.getElem?_eq_getElem hj]; exact hjr)
    repeat' (first | (simp (disch := first | omega | (decide +kernel) | (repeat (first | assumption | exact HExt.refl _ | (refine HExt.set ?_ (by first | omega | (simp only [new_nx, set_nx]; omega)) _) | (refine HExt.new ?_ _)))) only [↓RD, RU, accW_t, accW_f, isW, ↓putF_get, ↓putF_none, ↓evF_t, ↓evF_c, ↓evF_f, new_nx, set_nx, new_get, set_get, getD_zero, getD_succ, u_not, pop, lop, aop, wop, resL, resV, tupleV, akV, isVal, isCell, Value.cells, List.map_cons, List.map_nil, Bool.not_true, Bool.not_false, Option.map_some, ↓reduceIte, Nat.reduceEqDiff, Nat.reduceAdd, Int.reduceOfNat, Int.reduceNegSucc, reduceCtorEq, List.getElem?_cons_zero, List.getElem?_cons_succ, List.length_cons, List.length_nil, srcR_c, src_n, src_v, src_s, bnd, lenV, capV, Option.isSome_none, Option.isNone_none, Option.isSome_some, Option.isNone_some, Bool.true_or, Bool.false_or, List.take_succ_cons, List.take_zero, List.drop_succ_cons, List.drop_zero, List.cons_append, List.nil_append, List.drop_nil, List.all_cons, List.all_nil, Bool.true_and, Kd.isRo, List.size_toArray, List.toList_toArray, bldV, Nat.reduceLeDiff, Int.reduceMul, Int.reduceAdd, Int.reduceSub, Int.reduceToNat, maxLen_eq, zeros_one, appS_some, appV_n, appV_v, appH_t, appH_f, Kd.isEx, Bool.false_and, partV, Nat.add_zero, Int.toNat_natCast, f11, hag2, hag, hb2, fnC]) | (with_reducible refine condK_dec (fun _ => ?_) (fun _ => ?_)) | (with_reducible refine grd_dec (fun _ => ?_) (fun _ => ?_)) | (with_reducible refine egrd_dec (fun _ => ?_) (fun _ => ?_)))
    refine (rways_wp (hF.good hxH2) (by unfold i64r; omega)).mono fun v6 K6 ⟨hx6, es, hg6, hes, hat6⟩ => ?_
    have hel : es.length = (waysF F a).length := by rw [← hes, List.length_map]
    have hfew := ways_few (F := F) (a := (a : Int))
    obtain ⟨q6, c6, hv6⟩ : ∃ q6 c6, v6 = .slice q6 es.length c6 := by
      rcases hg6 with ⟨h, h'⟩ | ⟨b, kd, h, _⟩
      · rw [h]; exact ⟨none, 0, h'⟩
      · exact ⟨_, _, h⟩
    have hn6 := hx6.nx
    have hxH6 := hxH2.trans hx6
    have hb6 := (hx6.ob H.nx (by omega)).trans hb2
    have hrow6 := (hx6.ob (H.nx + 1) (by omega)).trans hrow2
    have hT6 : TD (H.nx + 2) K6 (.slice (some ⟨l, 0, none⟩) tr.length c) tr := hT2.mv hn6 fun y o n c _ hy => hx6.ob y hy
    have hcut := hU.cut hnot
    subst hv6
    obtain ⟨cT, hcT⟩ : ∃ cT, c = cT := ⟨_, rfl⟩
    obtain ⟨pu, hpu⟩ : ∃ pu : Nat → List Nat, pu = fun k => (((waysF F a).take k).filter (fun p => !decide ((r : Int) ∈ p.2))).map (·.1.toNat) := ⟨_, rfl⟩
    have hpul : ∀ k, (pu k).length ≤ 3 := fun k => by
      rw [hpu]
      simp only [List.length_map]
      exact Nat.le_trans (List.length_filter_le _ _) (by simp; omega)
    repeat' (first | (simp (disch := first | omega | (decide +kernel) | (repeat (first | assumption | exact HExt.refl _ | (refine HExt.set ?_ (by first | omega | (simp only [new_nx, set_nx]; omega)) _) | (refine HExt.new ?_ _)))) only [↓RD, RU, accW_t, accW_f, isW, ↓putF_get, ↓putF_none, ↓evF_t, ↓evF_c, ↓evF_f, new_nx, set_nx, new_get, set_get, getD_zero, getD_succ, u_not, pop, lop, aop, wop, resL, resV, tupleV, akV, isVal, isCell, Value.cells, List.map_cons, List.map_nil, Bool.not_true, Bool.not_false, Option.map_some, ↓reduceIte, Nat.reduceEqDiff, Nat.reduceAdd, Int.reduceOfNat, Int.reduceNegSucc, reduceCtorEq, List.getElem?_cons_zero, List.getElem?_cons_succ, List.length_cons, List.length_nil, srcR_c, src_n, src_v, src_s, bnd, lenV, capV, Option.isSome_none, Option.isNone_none, Option.isSome_some, Option.isNone_some, Bool.true_or, Bool.false_or, List.take_succ_cons, List.take_zero, List.drop_succ_cons, List.drop_zero, List.cons_append, List.nil_append, List.drop_nil, List.all_cons, List.all_nil, Bool.true_and, Kd.isRo, List.size_toArray, List.toList_toArray, bldV, Nat.reduceLeDiff, Int.reduceMul, Int.reduceAdd, Int.reduceSub, Int.reduceToNat, maxLen_eq, zeros_one, appS_some, appV_n, appV_v, appH_t, appH_f, Kd.isEx, Bool.false_and, partV, Nat.add_zero, Int.toNat_natCast]) | (with_reducible refine condK_dec (fun _ => ?_) (fun _ => ?_)) | (with_reducible refine grd_dec (fun _ => ?_) (fun _ => ?_)) | (with_reducible refine egrd_dec (fun _ => ?_) (fun _ => ?_)))
    refine loop_w (fun m fr G => ∃ k : Nat, m = es.length - k ∧ k ≤ es.length ∧ fr 13 = .int .i64 (k : Int) ∧ K6.nx ≤ G.nx ∧ (∀ y, y < K6.nx → y ≠ l → G.ob y = K6.ob y) ∧ TD (H.nx + 2) G (fr 8) (tr ++ pu k) ∧ ∀ y o n c, fr 8 = .slice (some ⟨y, o, none⟩) n c → y = l ∨ K6.nx ≤ y) (n := es.length)
      ⟨0, rfl, Nat.zero_le _, by repeat' (first | (simp (disch := first | omega | (decide +kernel) | (repeat (first | assumption | exact HExt.refl _ | (refine HExt.set ?_ (by first | omega | (simp only [new_nx, set_nx]; omega)) _) | (refine HExt.new ?_ _)))) only [↓RD, RU, accW_t, accW_f, isW, ↓putF_get, ↓putF_none, ↓evF_t, ↓evF_c, ↓evF_f, new_nx, set_nx, new_get, set_get, getD_zero, getD_succ, u_not, pop, lop, aop, wop, resL, resV, tupleV, akV, isVal, isCell, Value.cells, List.map_cons, List.map_nil, Bool.not_true, Bool.not_false, Option.map_some, ↓reduceIte, Nat.reduceEqDiff, Nat.reduceAdd, Int.reduceOfNat, Int.reduceNegSucc, reduceCtorEq, List.getElem?_cons_zero, List.getElem?_cons_succ, List.length_cons, List.length_nil, srcR_c, src_n, src_v, src_s, bnd, lenV, capV, Option.isSome_none, Option.isNone_none, Option.isSome_some, Option.isNone_some, Bool.true_or, Bool.false_or, List.take_succ_cons, List.take_zero, List.drop_succ_cons, List.drop_zero, List.cons_append, List.nil_append, List.drop_nil, List.all_cons, List.all_nil, Bool.true_and, Kd.isRo, List.size_toArray, List.toList_toArray, bldV, Nat.reduceLeDiff, Int.reduceMul, Int.reduceAdd, Int.reduceSub, Int.reduceToNat, maxLen_eq, zeros_one, appS_some, appV_n, appV_v, appH_t, appH_f, Kd.isEx, Bool.false_and, partV, Nat.add_zero, Int.toNat_natCast]) | (with_reducible refine condK_dec (fun _ => ?_) (fun _ => ?_)) | (with_reducible refine grd_dec (fun _ => ?_) (fun _ => ?_)) | (with_reducible refine egrd_dec (fun _ => ?_) (fun _ => ?_))); rfl, Nat.le_refl _, fun _ _ _ => rfl, by repeat' (first | (simp (disch := first | omega | (decide +kernel) | (repeat (first | assumption | exact HExt.refl _ | (refine HExt.set ?_ (by first | omega | (simp only [new_nx, set_nx]; omega)) _) | (refine HExt.new ?_ _)))) only [↓RD, RU, accW_t, accW_f, isW, ↓putF_get, ↓putF_none, ↓evF_t, ↓evF_c, ↓evF_f, new_nx, set_nx, new_get, set_get, getD_zero, getD_succ, u_not, pop, lop, aop, wop, resL, resV, tupleV, akV, isVal, isCell, Value.cells, List.map_cons, List.map_nil, Bool.not_true, Bool.not_false, Option.map_some, ↓reduceIte, Nat.reduceEqDiff, Nat.reduceAdd, Int.reduceOfNat, Int.reduceNegSucc, reduceCtorEq, List.getElem?_cons_zero, List.getElem?_cons_succ, List.length_cons, List.length_nil, srcR_c, src_n, src_v, src_s, bnd, lenV, capV, Option.isSome_none, Option.isNone_none, Option.isSome_some, Option.isNone_some, Bool.true_or, Bool.false_or, List.take_succ_cons, List.take_zero, List.drop_succ_cons, List.drop_zero, List.cons_append, List.nil_append, List.drop_nil, List.all_cons, List.all_nil, Bool.true_and, Kd.isRo, List.size_toArray, List.toList_toArray, bldV, Nat.reduceLeDiff, Int.reduceMul, Int.reduceAdd, Int.reduceSub, Int.reduceToNat, maxLen_eq, zeros_one, appS_some, appV_n, appV_v, appH_t, appH_f, Kd.isEx, Bool.false_and, partV, Nat.add_zero, Int.toNat_natCast, hag2, hag]) | (with_reducible refine condK_dec (fun _ => ?_) (fun _ => ?_)) | (with_reducible refine grd_dec (fun _ => ?_) (fun _ => ?_)) | (with_reducible refine egrd_dec (fun _ => ?_) (fun _ => ?_))); simpa [hpu] using hT6, fun y o n c h => by
        have h' : Value.slice (some ⟨l, 0, none⟩) tr.length cT = .slice (some ⟨y, o, none⟩) n c := by
          rw [← h]; repeat' (first | (simp (disch := first | omega | (decide +kernel) | (repeat (first | assumption | exact HExt.refl _ | (refine HExt.set ?_ (by first | omega | (simp only [new_nx, set_nx]; omega)) _) | (refine HExt.new ?_ _)))) only [↓RD, RU, accW_t, accW_f, isW, ↓putF_get, ↓putF_none, ↓evF_t, ↓evF_c, ↓evF_f, new_nx, set_nx, new_get, set_get, getD_zero, getD_succ, u_not, pop, lop, aop, wop, resL, resV, tupleV, akV, isVal, isCell, Value.cells, List.map_cons, List.map_nil, Bool.not_true, Bool.not_false, Option.map_some, ↓reduceIte, Nat.reduceEqDiff, Nat.reduceAdd, Int.reduceOfNat, Int.reduceNegSucc, reduceCtorEq, List.getElem?_cons_zero, List.getElem?_cons_succ, List.length_cons, List.length_nil, srcR_c, src_n, src_v, src_s, bnd, lenV, capV, Option.isSome_none, Option.isNone_none, Option.isSome_some, Option.isNone_some, Bool.true_or, Bool.false_or, List.take_succ_cons, List.take_zero, List.drop_succ_cons, List.drop_zero, List.cons_append, List.nil_append, List.drop_nil, List.all_cons, List.all_nil, Bool.true_and, Kd.isRo, List.size_toArray, List.toList_toArray, bldV, Nat.reduceLeDiff, Int.reduceMul, Int.reduceAdd, Int.reduceSub, Int.reduceToNat, maxLen_eq, zeros_one, appS_some, appV_n, appV_v, appH_t, appH_f, Kd.isEx, Bool.false_and, partV, Nat.add_zero, Int.toNat_natCast, hag2, hag, hcT]) | (with_reducible refine condK_dec (fun _ => ?_) (fun _ => ?_)) | (with_reducible refine grd_dec (fun _ => ?_) (fun _ => ?_)) | (with_reducible refine egrd_dec (fun _ => ?_) (fun _ => ?_)))
        cases h'; exact .inl rfl⟩ ?_
    rintro m fr4 G ⟨k, rfl, hk, f13, hGn, hGx, hTG, hTy⟩ hag4
    have hbG := (hGx H.nx (by omega) (by omega)).trans hb6
    have hrowG := (hGx (H.nx + 1) (by omega) (by omega)).trans hrow6
    have hxHG : HExt H G := ⟨by have := hxH6.nx; omega, fun y hy => (hGx y (by omega) (by omega)).trans (hxH6.ob y hy)⟩
    by_cases hkl : k < es.length
    case neg =>
      have hkk : k = (waysF F a).length := by omega
      have hpk := hpul k
      repeat' (first | (simp (disch := first | omega | (decide +kernel) | (repeat (first | assumption | exact HExt.refl _ | (refine HExt.set ?_ (by first | omega | (simp only [new_nx, set_nx]; omega)) _) | (refine HExt.new ?_ _)))) only [↓RD, RU, accW_t, accW_f, isW, ↓putF_get, ↓putF_none, ↓evF_t, ↓evF_c, ↓evF_f, new_nx, set_nx, new_get, set_get, getD_zero, getD_succ, u_not, pop, lop, aop, wop, resL, resV, tupleV, akV, isVal, isCell, Value.cells, List.map_cons, List.map_nil, Bool.not_true, Bool.not_false, Option.map_some, ↓reduceIte, Nat.reduceEqDiff, Nat.reduceAdd, Int.reduceOfNat, Int.reduceNegSucc, reduceCtorEq, List.getElem?_cons_zero, List.getElem?_cons_succ, List.length_cons, List.length_nil, srcR_c, src_n, src_v, src_s, bnd, lenV, capV, Option.isSome_none, Option.isNone_none, Option.isSome_some, Option.isNone_some, Bool.true_or, Bool.false_or, List.take_succ_cons, List.take_zero, List.drop_succ_cons, List.drop_zero, List.cons_append, List.nil_append, List.drop_nil, List.all_cons, List.all_nil, Bool.true_and, Kd.isRo, List.size_toArray, List.toList_toArray, bldV, Nat.reduceLeDiff, Int.reduceMul, Int.reduceAdd, Int.reduceSub, Int.reduceToNat, maxLen_eq, zeros_one, appS_some, appV_n, appV_v, appH_t, appH_f, Kd.isEx, Bool.false_and, partV, Nat.add_zero, Int.toNat_natCast, f13, hag4, hag2, hag]) | (with_reducible refine condK_dec (fun _ => ?_) (fun _ => ?_)) | (with_reducible refine grd_dec (fun _ => ?_) (fun _ => ?_)) | (with_reducible refine egrd_dec (fun _ => ?_) (fun _ => ?_)))
      refine ⟨4 * uns (sn.set a true) + (tr ++ pu k).length, by simp; omega, sn.set a true, tr ++ pu k, rfl, by simp; omega, hxHG, by omega, by rw [hbG]; simp only [fnC, hn, hq2], hrowG, by simp [hsl], hTG, fun x hx' => ?_, ?_⟩
      · rcases List.mem_append.1 hx' with h | h
        · exact htd x (by simp [h])
        · rw [hpu] at h
          obtain ⟨p, hp, rfl⟩ := List.mem_map.1 h
          have hp' := List.mem_of_mem_take (List.mem_filter.1 hp).1
          have := ways_in hsd hp'
          omega
      · have hS : ∀ j, (sn[j]? = some false ∧ j ≠ a) → (sn.set a true)[j]? = some false := fun j ⟨h1, h2⟩ => by
          rw [List.getElem?_set, if_neg (by omega)]; exact h1
        rcases hcut with h | ⟨p, hp, hpr, h⟩
        · refine ⟨xw, List.mem_append_left _ ?_, h.mono hS⟩
          have h2 := h.at.2
          rcases List.mem_append.1 hxw with h3 | h3
          · exact h3
          · simp at h3; exact absurd h3 h2
        · refine ⟨p.1.toNat, List.mem_append_right _ ?_, h.mono hS⟩
          rw [hpu]
          refine List.mem_map.2 ⟨p, List.mem_filter.2 ⟨?_, by simp [hpr]⟩, rfl⟩
          rw [hkk, List.take_length]
          exact hp
    rcases hg6 with ⟨h, _⟩ | ⟨b6, kd6, h, hb61, hb62, hob6, _⟩
    · rw [h] at hkl; exact absurd hkl (Nat.not_lt_zero _)
    cases h
    have hob6G := (hGx b6 hb62 (by omega)).trans hob6
    obtain ⟨ej, hej⟩ : ∃ ej, es[k]? = some ej := ⟨es[k], by simp [hkl]⟩
    have hpk : (waysF F a)[k]? = some (ej.t, ej.ws) := by rw [← hes, List.getElem?_map, hej]; rfl
    have hpm : (ej.t, ej.ws) ∈ waysF F a := List.mem_of_getElem? hpk
    have htr := ways_in hsd hpm
    simp only at htr
    obtain ⟨hg71, hg72⟩ := way_get es k ej hej
    have hfl := flat_len (f := wayC) (sz := 2) (fun e => rfl) es
    obtain ⟨hsl8, _, hlo8⟩ := hat6 ej (List.mem_of_getElem? hej)
    have hsl8G : SlAt 1 (CInt .i64) G ej.q ej.c ej.ws := hsl8.mv hGn fun y o hq => hGx y (hsl8.lt hq) (by have := hlo8 y o hq; omega)
    have hpus : pu (k + 1) = pu k ++ (if (r : Int) ∈ ej.ws then [] else [ej.t.toNat]) := by
      rw [hpu]
      simp only
      rw [List.take_add_one, hpk]
      simp only [Option.toList_some, List.filter_append, List.map_append]
      by_cases hm : (r : Int) ∈ ej.ws <;> simp [hm]
    have hwl : ej.ws.length ≤ 9223372036854775807 := by
      rcases hsl8G with ⟨h, _⟩ | ⟨_, _, _, _, _, _, _, h1, h2, _⟩
      · rw [h]; simp
      · rw [maxLen_eq] at h2; omega
    repeat' (first | (simp (disch := first | omega | (decide +kernel) | (repeat (first | assumption | exact HExt.refl _ | (refine HExt.set ?_ (by first | omega | (simp only [new_nx, set_nx]; omega)) _) | (refine HExt.new ?_ _)))) only [↓RD, RU, accW_t, accW_f, isW, ↓putF_get, ↓putF_none, ↓evF_t, ↓evF_c, ↓evF_f, new_nx, set_nx, new_get, set_get, getD_zero, getD_succ, u_not, pop, lop, aop, wop, resL, resV, tupleV, akV, isVal, isCell, Value.cells, List.map_cons, List.map_nil, Bool.not_true, Bool.not_false, Option.map_some, ↓reduceIte, Nat.reduceEqDiff, Nat.reduceAdd, Int.reduceOfNat, Int.reduceNegSucc, reduceCtorEq, List.getElem?_cons_zero, List.getElem?_cons_succ, List.length_cons, List.length_nil, srcR_c, src_n, src_v, src_s, bnd, lenV, capV, Option.isSome_none, Option.isNone_none, Option.isSome_some, Option.isNone_some, Bool.true_or, Bool.false_or, List.take_succ_cons, List.take_zero, List.drop_succ_cons, List.drop_zero, List.cons_append, List.nil_append, List.drop_nil, List.all_cons, List.all_nil, Bool.true_and, Kd.isRo, List.size_toArray, List.toList_toArray, bldV, Nat.reduceLeDiff, Int.reduceMul, Int.reduceAdd, Int.reduceSub, Int.reduceToNat, maxLen_eq, zeros_one, appS_some, appV_n, appV_v, appH_t, appH_f, Kd.isEx, Bool.false_and, partV, Nat.add_zero, Int.toNat_natCast, f13, hag4, hag2, hag]) | (with_reducible refine condK_dec (fun _ => ?_) (fun _ => ?_)) | (with_reducible refine grd_dec (fun _ => ?_) (fun _ => ?_)) | (with_reducible refine egrd_dec (fun _ => ?_) (fun _ => ?_)))
    refine loop_w (fun m fr G' => ∃ i : Nat, m = ej.ws.length - i ∧ i ≤ ej.ws.length ∧ fr 15 = .int .i64 (i : Int) ∧ fr 14 = .bool (decide ((r : Int) ∈ ej.ws.take i)) ∧ G' = G) (n := ej.ws.length) ⟨0, rfl, Nat.zero_le _, by repeat' (first | (simp (disch := first | omega | (decide +kernel) | (repeat (first | assumption | exact HExt.refl _ | (refine HExt.set ?_ (by first | omega | (simp only [new_nx, set_nx]; omega)) _) | (refine HExt.new ?_ _)))) only [↓RD, RU, accW_t, accW_f, isW, ↓putF_get, ↓putF_none, ↓evF_t, ↓evF_c, ↓evF_f, new_nx, set_nx, new_get, set_get, getD_zero, getD_succ, u_not, pop, lop, aop, wop, resL, resV, tupleV, akV, isVal, isCell, Value.cells, List.map_cons, List.map_nil, Bool.not_true, Bool.not_false, Option.map_some, ↓reduceIte, Nat.reduceEqDiff, Nat.reduceAdd, Int.reduceOfNat, Int.reduceNegSucc, reduceCtorEq, List.getElem?_cons_zero, List.getElem?_cons_succ, List.length_cons, List.length_nil, srcR_c, src_n, src_v, src_s, bnd, lenV, capV, Option.isSome_none, Option.isNone_none, Option.isSome_some, Option.isNone_some, Bool.true_or, Bool.false_or, List.take_succ_cons, List.take_zero, List.drop_succ_cons, List.drop_zero, List.cons_append, List.nil_append, List.drop_nil, List.all_cons, List.all_nil, Bool.true_and, Kd.isRo, List.size_toArray, List.toList_toArray, bldV, Nat.reduceLeDiff, Int.reduceMul, Int.reduceAdd, Int.reduceSub, Int.reduceToNat, maxLen_eq, zeros_one, appS_some, appV_n, appV_v, appH_t, appH_f, Kd.isEx, Bool.false_and, partV, Nat.add_zero, Int.toNat_natCast]) | (with_reducible refine condK_dec (fun _ => ?_) (fun _ => ?_)) | (with_reducible refine grd_dec (fun _ => ?_) (fun _ => ?_)) | (with_reducible refine egrd_dec (fun _ => ?_) (fun _ => ?_))); rfl, by repeat' (first | (simp (disch := first | omega | (decide +kernel) | (repeat (first | assumption | exact HExt.refl _ | (refine HExt.set ?_ (by first | omega | (simp only [new_nx, set_nx]; omega)) _) | (refine HExt.new ?_ _)))) only [↓RD, RU, accW_t, accW_f, isW, ↓putF_get, ↓putF_none, ↓evF_t, ↓evF_c, ↓evF_f, new_nx, set_nx, new_get, set_get, getD_zero, getD_succ, u_not, pop, lop, aop, wop, resL, resV, tupleV, akV, isVal, isCell, Value.cells, List.map_cons, List.map_nil, Bool.not_true, Bool.not_false, Option.map_some, ↓reduceIte, Nat.reduceEqDiff, Nat.reduceAdd, Int.reduceOfNat, Int.reduceNegSucc, reduceCtorEq, List.getElem?_cons_zero, List.getElem?_cons_succ, List.length_cons, List.length_nil, srcR_c, src_n, src_v, src_s, bnd, lenV, capV, Option.isSome_none, Option.isNone_none, Option.isSome_some, Option.isNone_some, Bool.true_or, Bool.false_or, List.take_succ_cons, List.take_zero, List.drop_succ_cons, List.drop_zero, List.cons_append, List.nil_append, List.drop_nil, List.all_cons, List.all_nil, Bool.true_and, Kd.isRo, List.size_toArray, List.toList_toArray, bldV, Nat.reduceLeDiff, Int.reduceMul, Int.reduceAdd, Int.reduceSub, Int.reduceToNat, maxLen_eq, zeros_one, appS_some, appV_n, appV_v, appH_t, appH_f, Kd.isEx, Bool.false_and, partV, Nat.add_zero, Int.toNat_natCast]) | (with_reducible refine condK_dec (fun _ => ?_) (fun _ => ?_)) | (with_reducible refine grd_dec (fun _ => ?_) (fun _ => ?_)) | (with_reducible refine egrd_dec (fun _ => ?_) (fun _ => ?_))); simp, rfl⟩ ?_
    rintro m fr5 G' ⟨i5, rfl, hi5, f15, f14, rfl⟩ hag5
    by_cases hil5 : i5 < ej.ws.length
    case pos =>
      obtain ⟨l9, o9, os9, e9, kd9, hq9, hl9, hc9, hm9, hob9, hol9, hos9, hwf9⟩ := hsl8G.ints (by omega)
      rw [maxLen_eq] at hm9
      have hrc9 := hos9 i5 hil5
      have htk5 : ej.ws.take (i5 + 1) = ej.ws.take i5 ++ [ej.ws.getD i5 0] := by
        rw [List.take_add_one, List.getD_eq_getElem?_getD, List.getElem?_eq_getElem hil5]; rfl
      by_cases hin : (r : Int) ∈ ej.ws.take i5
      · rw [decide_eq_true hin] at f14
        repeat' (first | (simp (disch := first | omega | (decide +kernel) | (repeat (first | assumption | exact HExt.refl _ | (refine HExt.set ?_ (by first | omega | (simp only [new_nx, set_nx]; omega)) _) | (refine HExt.new ?_ _)))) only [↓RD, RU, accW_t, accW_f, isW, ↓putF_get, ↓putF_none, ↓evF_t, ↓evF_c, ↓evF_f, new_nx, set_nx, new_get, set_get, getD_zero, getD_succ, u_not, pop, lop, aop, wop, resL, resV, tupleV, akV, isVal, isCell, Value.cells, List.map_cons, List.map_nil, Bool.not_true, Bool.not_false, Option.map_some, ↓reduceIte, Nat.reduceEqDiff, Nat.reduceAdd, Int.reduceOfNat, Int.reduceNegSucc, reduceCtorEq, List.getElem?_cons_zero, List.getElem?_cons_succ, List.length_cons, List.length_nil, srcR_c, src_n, src_v, src_s, bnd, lenV, capV, Option.isSome_none, Option.isNone_none, Option.isSome_some, Option.isNone_some, Bool.true_or, Bool.false_or, List.take_succ_cons, List.take_zero, List.drop_succ_cons, List.drop_zero, List.cons_append, List.nil_append, List.drop_nil, List.all_cons, List.all_nil, Bool.true_and, Kd.isRo, List.size_toArray, List.toList_toArray, bldV, Nat.reduceLeDiff, Int.reduceMul, Int.reduceAdd, Int.reduceSub, Int.reduceToNat, maxLen_eq, zeros_one, appS_some, appV_n, appV_v, appH_t, appH_f, Kd.isEx, Bool.false_and, partV, Nat.add_zero, Int.toNat_natCast, f13, f15, f14, hag5, hag4, hag2, hag, hob6G, hg71, hg72, hfl, hq9, hob9, hrc9]) | (with_reducible refine condK_dec (fun _ => ?_) (fun _ => ?_)) | (with_reducible refine grd_dec (fun _ => ?_) (fun _ => ?_)) | (with_reducible refine egrd_dec (fun _ => ?_) (fun _ => ?_)))
        refine ⟨_, by omega, i5 + 1, rfl, by omega, rfl, ?_⟩
        rw [decide_eq_true (by rw [htk5]; exact List.mem_append_left _ hin)]
      · rw [decide_eq_false hin] at f14
        by_cases her : ej.ws.getD i5 0 = (r : Int)
        · rw [her] at hrc9
          repeat' (first | (simp (disch := first | omega | (decide +kernel) | (repeat (first | assumption | exact HExt.refl _ | (refine HExt.set ?_ (by first | omega | (simp only [new_nx, set_nx]; omega)) _) | (refine HExt.new ?_ _)))) only [↓RD, RU, accW_t, accW_f, isW, ↓putF_get, ↓putF_none, ↓evF_t, ↓evF_c, ↓evF_f, new_nx, set_nx, new_get, set_get, getD_zero, getD_succ, u_not, pop, lop, aop, wop, resL, resV, tupleV, akV, isVal, isCell, Value.cells, List.map_cons, List.map_nil, Bool.not_true, Bool.not_false, Option.map_some, ↓reduceIte, Nat.reduceEqDiff, Nat.reduceAdd, Int.reduceOfNat, Int.reduceNegSucc, reduceCtorEq, List.getElem?_cons_zero, List.getElem?_cons_succ, List.length_cons, List.length_nil, srcR_c, src_n, src_v, src_s, bnd, lenV, capV, Option.isSome_none, Option.isNone_none, Option.isSome_some, Option.isNone_some, Bool.true_or, Bool.false_or, List.take_succ_cons, List.take_zero, List.drop_succ_cons, List.drop_zero, List.cons_append, List.nil_append, List.drop_nil, List.all_cons, List.all_nil, Bool.true_and, Kd.isRo, List.size_toArray, List.toList_toArray, bldV, Nat.reduceLeDiff, Int.reduceMul, Int.reduceAdd, Int.reduceSub, Int.reduceToNat, maxLen_eq, zeros_one, appS_some, appV_n, appV_v, appH_t, appH_f, Kd.isEx, Bool.false_and, partV, Nat.add_zero, Int.toNat_natCast, f13, f15, f14, hag5, hag4, hag2, hag, hob6G, hg71, hg72, hfl, hq9, hob9, hrc9]) | (with_reducible refine condK_dec (fun _ => ?_) (fun _ => ?_)) | (with_reducible refine grd_dec (fun _ => ?_) (fun _ => ?_)) | (with_reducible refine egrd_dec (fun _ => ?_) (fun _ => ?_)))
          refine ⟨_, by omega, i5 + 1, rfl, by omega, rfl, ?_⟩
          rw [decide_eq_true (by rw [htk5, her]; simp)]
        · repeat' (first | (simp (disch := first | omega | (decide +kernel) | (repeat (first | assumption | exact HExt.refl _ | (refine HExt.set ?_ (by first | omega | (simp only [new_nx, set_nx]; omega)) _) | (refine HExt.new ?_ _)))) only [↓RD, RU, accW_t, accW_f, isW, ↓putF_get, ↓putF_none, ↓evF_t, ↓evF_c, ↓evF_f, new_nx, set_nx, new_get, set_get, getD_zero, getD_succ, u_not, pop, lop, aop, wop, resL, resV, tupleV, akV, isVal, isCell, Value.cells, List.map_cons, List.map_nil, Bool.not_true, Bool.not_false, Option.map_some, ↓reduceIte, Nat.reduceEqDiff, Nat.reduceAdd, Int.reduceOfNat, Int.reduceNegSucc, reduceCtorEq, List.getElem?_cons_zero, List.getElem?_cons_succ, List.length_cons, List.length_nil, srcR_c, src_n, src_v, src_s, bnd, lenV, capV, Option.isSome_none, Option.isNone_none, Option.isSome_some, Option.isNone_some, Bool.true_or, Bool.false_or, List.take_succ_cons, List.take_zero, List.drop_succ_cons, List.drop_zero, List.cons_append, List.nil_append, List.drop_nil, List.all_cons, List.all_nil, Bool.true_and, Kd.isRo, List.size_toArray, List.toList_toArray, bldV, Nat.reduceLeDiff, Int.reduceMul, Int.reduceAdd, Int.reduceSub, Int.reduceToNat, maxLen_eq, zeros_one, appS_some, appV_n, appV_v, appH_t, appH_f, Kd.isEx, Bool.false_and, partV, Nat.add_zero, Int.toNat_natCast, f13, f15, f14, hag5, hag4, hag2, hag, hob6G, hg71, hg72, hfl, hq9, hob9, hrc9]) | (with_reducible refine condK_dec (fun _ => ?_) (fun _ => ?_)) | (with_reducible refine grd_dec (fun _ => ?_) (fun _ => ?_)) | (with_reducible refine egrd_dec (fun _ => ?_) (fun _ => ?_)))
          refine ⟨_, by omega, i5 + 1, rfl, by omega, rfl, ?_⟩
          rw [decide_eq_false (by rw [htk5]; simp only [List.mem_append, List.mem_singleton, not_or]; exact ⟨hin, fun h => her h.symm⟩)]
    have htk5 : ej.ws.take i5 = ej.ws := List.take_of_length_le (by omega)
    rw [htk5] at f14
    by_cases hin : (r : Int) ∈ ej.ws
    · rw [decide_eq_true hin] at f14
      rw [if_pos hin, List.append_nil] at hpus
      repeat' (first | (simp (disch := first | omega | (decide +kernel) | (repeat (first | assumption | exact HExt.refl _ | (refine HExt.set ?_ (by first | omega | (simp only [new_nx, set_nx]; omega)) _) | (refine HExt.new ?_ _)))) only [↓RD, RU, accW_t, accW_f, isW, ↓putF_get, ↓putF_none, ↓evF_t, ↓evF_c, ↓evF_f, new_nx, set_nx, new_get, set_get, getD_zero, getD_succ, u_not, pop, lop, aop, wop, resL, resV, tupleV, akV, isVal, isCell, Value.cells, List.map_cons, List.map_nil, Bool.not_true, Bool.not_false, Option.map_some, ↓reduceIte, Nat.reduceEqDiff, Nat.reduceAdd, Int.reduceOfNat, Int.reduceNegSucc, reduceCtorEq, List.getElem?_cons_zero, List.getElem?_cons_succ, List.length_cons, List.length_nil, srcR_c, src_n, src_v, src_s, bnd, lenV, capV, Option.isSome_none, Option.isNone_none, Option.isSome_some, Option.isNone_some, Bool.true_or, Bool.false_or, List.take_succ_cons, List.take_zero, List.drop_succ_cons, List.drop_zero, List.cons_append, List.nil_append, List.drop_nil, List.all_cons, List.all_nil, Bool.true_and, Kd.isRo, List.size_toArray, List.toList_toArray, bldV, Nat.reduceLeDiff, Int.reduceMul, Int.reduceAdd, Int.reduceSub, Int.reduceToNat, maxLen_eq, zeros_one, appS_some, appV_n, appV_v, appH_t, appH_f, Kd.isEx, Bool.false_and, partV, Nat.add_zero, Int.toNat_natCast, f13, f15, f14, hag5, hag4, hag2, hag, hob6G, hg71, hg72, hfl]) | (with_reducible refine condK_dec (fun _ => ?_) (fun _ => ?_)) | (with_reducible refine grd_dec (fun _ => ?_) (fun _ => ?_)) | (with_reducible refine egrd_dec (fun _ => ?_) (fun _ => ?_)))
      refine ⟨_, by omega, k + 1, rfl, by omega, rfl, hGn, hGx, ?_, ?_⟩
      · rw [hpus]; exact hTG
      · exact hTy
    · rw [decide_eq_false hin] at f14
      rw [if_neg hin] at hpus
      obtain ⟨tn, htn⟩ : ∃ tn : Nat, ej.t = (tn : Int) := ⟨ej.t.toNat, by omega⟩
      have hpl := hpul k
      rw [htn] at hg71 hpus
      repeat' (first | (simp (disch := first | omega | (decide +kernel) | (repeat (first | assumption | exact HExt.refl _ | (refine HExt.set ?_ (by first | omega | (simp only [new_nx, set_nx]; omega)) _) | (refine HExt.new ?_ _)))) only [↓RD, RU, accW_t, accW_f, isW, ↓putF_get, ↓putF_none, ↓evF_t, ↓evF_c, ↓evF_f, new_nx, set_nx, new_get, set_get, getD_zero, getD_succ, u_not, pop, lop, aop, wop, resL, resV, tupleV, akV, isVal, isCell, Value.cells, List.map_cons, List.map_nil, Bool.not_true, Bool.not_false, Option.map_some, ↓reduceIte, Nat.reduceEqDiff, Nat.reduceAdd, Int.reduceOfNat, Int.reduceNegSucc, reduceCtorEq, List.getElem?_cons_zero, List.getElem?_cons_succ, List.length_cons, List.length_nil, srcR_c, src_n, src_v, src_s, bnd, lenV, capV, Option.isSome_none, Option.isNone_none, Option.isSome_some, Option.isNone_some, Bool.true_or, Bool.false_or, List.take_succ_cons, List.take_zero, List.drop_succ_cons, List.drop_zero, List.cons_append, List.nil_append, List.drop_nil, List.all_cons, List.all_nil, Bool.true_and, Kd.isRo, List.size_toArray, List.toList_toArray, bldV, Nat.reduceLeDiff, Int.reduceMul, Int.reduceAdd, Int.reduceSub, Int.reduceToNat, maxLen_eq, zeros_one, appS_some, appV_n, appV_v, appH_t, appH_f, Kd.isEx, Bool.false_and, partV, Nat.add_zero, Int.toNat_natCast, f13, f15, f14, hag5, hag4, hag2, hag, hob6G, hg71, hg72, hfl]) | (with_reducible refine condK_dec (fun _ => ?_) (fun _ => ?_)) | (with_reducible refine grd_dec (fun _ => ?_) (fun _ => ?_)) | (with_reducible refine egrd_dec (fun _ => ?_) (fun _ => ?_)))
      have hTG' : TD (H.nx + 2) (G'.new (.cells [.int .i64 (tn : Int)] 3 .ex)) (fr4 8) (tr ++ pu k) := hTG.mv (by simp only [new_nx]; omega) fun y o n c e hy => by rw [new_get, if_neg (by omega)]
      refine td_app hTG' (by simp; omega) fun v' K' hT' hn' hk' hv' => ?_
      simp only [new_nx] at hn' hv'
      repeat' (first | (simp (disch := first | omega | (decide +kernel) | (repeat (first | assumption | exact HExt.refl _ | (refine HExt.set ?_ (by first | omega | (simp only [new_nx, set_nx]; omega)) _) | (refine HExt.new ?_ _)))) only [↓RD, RU, accW_t, accW_f, isW, ↓putF_get, ↓putF_none, ↓evF_t, ↓evF_c, ↓evF_f, new_nx, set_nx, new_get, set_get, getD_zero, getD_succ, u_not, pop, lop, aop, wop, resL, resV, tupleV, akV, isVal, isCell, Value.cells, List.map_cons, List.map_nil, Bool.not_true, Bool.not_false, Option.map_some, ↓reduceIte, Nat.reduceEqDiff, Nat.reduceAdd, Int.reduceOfNat, Int.reduceNegSucc, reduceCtorEq, List.getElem?_cons_zero, List.getElem?_cons_succ, List.length_cons, List.length_nil, srcR_c, src_n, src_v, src_s, bnd, lenV, capV, Option.isSome_none, Option.isNone_none, Option.isSome_some, Option.isNone_some, Bool.true_or, Bool.false_or, List.take_succ_cons, List.take_zero, List.drop_succ_cons, List.drop_zero, List.cons_append, List.nil_append, List.drop_nil, List.all_cons, List.all_nil, Bool.true_and, Kd.isRo, List.size_toArray, List.toList_toArray, bldV, Nat.reduceLeDiff, Int.reduceMul, Int.reduceAdd, Int.reduceSub, Int.reduceToNat, maxLen_eq, zeros_one, appS_some, appV_n, appV_v, appH_t, appH_f, Kd.isEx, Bool.false_and, partV, Nat.add_zero, Int.toNat_natCast, f13, hag5]) | (with_reducible refine condK_dec (fun _ => ?_) (fun _ => ?_)) | (with_reducible refine grd_dec (fun _ => ?_) (fun _ => ?_)) | (with_reducible refine egrd_dec (fun _ => ?_) (fun _ => ?_)))
      refine ⟨_, by omega, k + 1, rfl, by omega, rfl, by omega, fun y h1 h2 => ?_, ?_, fun y o n c e => .inr ?_⟩
      · rw [hk' y (by first | omega | (simp only [new_nx, set_nx]; omega)) (fun o n c e => by rcases hTy y o n c e with h | h <;> omega), new_get, if_neg (by omega)]
        exact hGx y h1 h2
      · rw [hpus, ← List.append_assoc, Int.toNat_natCast]; exact hT'
      · have := hv' y o n c e; omega
end Can
end Go.Proofs.Ytapcoeecjlkdgaa
