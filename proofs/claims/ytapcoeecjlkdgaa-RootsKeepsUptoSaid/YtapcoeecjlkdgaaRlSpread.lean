/- Flow: the document's spread: a register is live ahead of its readers, and backwards from there. -/
import Derived.Test.YtapcoeecjlkdgaaRlS
import Derived.Test.YtapcoeecjlkdgaaCanRun
namespace Go.Proofs.Ytapcoeecjlkdgaa
namespace Can
open Go Go.RowKit
set_option linter.unusedSimpArgs false
set_option linter.unusedVariables false
set_option maxRecDepth 4000
/-- A stack of numbers in own memory. -/
def TD (lo : Nat) (K : CH) (v : Value) (td : List Nat) : Prop :=
  ∃ l c cs kd, v = .slice (some ⟨l, 0, none⟩) td.length c ∧ K.ob l = .cells cs 3 kd ∧ kd.isRo = false ∧ td.length ≤ cs.length ∧ td.length ≤ c ∧ c ≤ 9223372036854775807 ∧ lo ≤ l ∧ l < K.nx ∧ cs.take td.length = td.map fun (x : Nat) => .int .i64 (x : Int)
theorem take_last {α : Type} {cs : List α} {n : Nat} {xs : List α} {x : α} (h : cs.take (n + 1) = xs ++ [x]) (hl : xs.length = n) : cs[n]? = some x ∧ cs.take n = xs := by
  constructor
  · have h1 : (cs.take (n + 1))[n]? = some x := by rw [h, List.getElem?_append_right (by omega), hl]; simp
    rw [List.getElem?_take_of_lt (by omega)] at h1
    exact h1
  · have h1 : cs.take n = (cs.take (n + 1)).take n := by rw [List.take_take, Nat.min_eq_left (by omega)]
    rw [h1, h, List.take_append_of_le_length (by omega), List.take_of_length_le (by omega)]
theorem td_app {lo : Nat} {K : CH} {v : Value} {td : List Nat} (h : TD lo K v td) {x : Nat} (hb : td.length ≤ 16777216) {Q : Value → CH → Prop}
    (k : ∀ v' K', TD lo K' v' (td ++ [x]) → K.nx ≤ K'.nx → (∀ y, y < K.nx → (∀ o n c, v ≠ .slice (some ⟨y, o, none⟩) n c) → K'.ob y = K.ob y) → (∀ y o n c, v' = .slice (some ⟨y, o, none⟩) n c → K.nx ≤ y) → Q v' K') :
    optW (appV 3 1 8 v [.int .i64 (x : Int)] 1 K) Q := by
  obtain ⟨l, c, cs, kd, rfl, hob, hk, h1, h2, h3, h4, h5, h6⟩ := h
  rw [appV_r, hob, appR_c, if_neg (by decide), if_pos ⟨rfl, rfl, hk, by omega, by simp [isCell], by omega, by rw [maxLen_eq]; omega⟩, optW_some]
  rw [Nat.mul_one, h6]
  have hnx : ∀ o, (appH (kd.isEx && decide (c < td.length + 1)) K l o).nx = K.nx + 1 := fun o => by unfold appH; split <;> rfl
  have hat : ∀ o, (appH (kd.isEx && decide (c < td.length + 1)) K l o).ob K.nx = o := fun o => by
    unfold appH; split <;> (simp only [CH.new, CH.set]; simp)
  have hot : ∀ o y, y < K.nx → y ≠ l → (appH (kd.isEx && decide (c < td.length + 1)) K l o).ob y = K.ob y := fun o y hl hb => by
    unfold appH
    split
    · rw [new_get, if_neg (by omega)]
    · rw [new_get, if_neg (by show y ≠ K.nx; omega), set_get, if_neg hb]
  refine k _ _ ⟨K.nx, td.length + 1, _, .gr, by simp, hat _, rfl, by simp, by simp, by omega, by omega, by rw [hnx]; omega, by rw [List.take_of_length_le (by simp)]; simp⟩ (by rw [hnx]; omega) (fun y hy hv => hot _ y hy fun e => hv 0 td.length c (by rw [e])) (fun y o n c e => by cases e; exact Nat.le_refl _)
theorem TD.mv {lo : Nat} {K K' : CH} {v : Value} {td : List Nat} (h : TD lo K v td) (hn : K.nx ≤ K'.nx) (hk : ∀ y o n c, v = .slice (some ⟨y, o, none⟩) n c → y < K.nx → K'.ob y = K.ob y) : TD lo K' v td := by
  obtain ⟨l, c, cs, kd, rfl, hob, h0, h1, h2, h3, h4, h5, h6⟩ := h
  exact ⟨l, c, cs, kd, rfl, (hk l _ _ _ rfl h5).trans hob, h0, h1, h2, h3, h4, by omega, h6⟩
theorem TD.row {lo : Nat} {K : CH} {v : Value} {td : List Nat} (h : TD lo K v td) {y o n c : Nat} (hv : v = .slice (some ⟨y, o, none⟩) n c) : lo ≤ y ∧ y < K.nx := by
  obtain ⟨l, c, cs, kd, rfl, hob, h0, h1, h2, h3, h4, h5, h6⟩ := h
  cases hv; exact ⟨h4, h5⟩

theorem rhas_wp {H : CH} {q : Option Addr} {c : Nat} {xs : List Int} (hs : SlAt 1 (CInt .i64) H q c xs) (hl : xs.length ≤ 9223372036854775807) (r : Int) :
    WpF (tblG Try.prog LG GG) 44 [.slice q xs.length c, .int .i64 r] H fun v K => v = .bool (decide (r ∈ xs)) ∧ K = H := by
  refine wpF_rG (by rfl) (by kernel_rfl) ?_; (conv in (rF _ _).body => reduce); (conv in (rF _ _).res => reduce)
  repeat' (first | (simp (disch := first | omega | (decide +kernel) | (repeat (first | assumption | exact HExt.refl _ | (refine HExt.set ?_ (by first | omega | (simp only [new_nx, set_nx]; omega)) _) | (refine HExt.new ?_ _)))) only [↓RD, RU, accW_t, accW_f, isW, ↓putF_get, ↓putF_none, ↓evF_t, ↓evF_c, ↓evF_f, new_nx, set_nx, new_get, set_get, getD_zero, getD_succ, u_not, pop, lop, aop, wop, resL, resV, tupleV, akV, isVal, isCell, Value.cells, List.map_cons, List.map_nil, Bool.not_true, Bool.not_false, Option.map_some, ↓reduceIte, Nat.reduceEqDiff, Nat.reduceAdd, Int.reduceOfNat, Int.reduceNegSucc, reduceCtorEq, List.getElem?_cons_zero, List.getElem?_cons_succ, List.length_cons, List.length_nil, srcR_c, src_n, src_v, src_s, bnd, lenV, capV, Option.isSome_none, Option.isNone_none, Option.isSome_some, Option.isNone_some, Bool.true_or, Bool.false_or, List.take_succ_cons, List.take_zero, List.drop_succ_cons, List.drop_zero, List.cons_append, List.nil_append, List.drop_nil, List.all_cons, List.all_nil, Bool.true_and, Kd.isRo, List.size_toArray, List.toList_toArray, bldV, Nat.reduceLeDiff, Int.reduceMul, Int.reduceAdd, Int.reduceSub, Int.reduceToNat, maxLen_eq, zeros_one, appS_some, appV_n, appV_v, appH_t, appH_f, Kd.isEx, Bool.false_and, partV, Nat.add_zero, Int.toNat_natCast]) | (with_reducible refine condK_dec (fun _ => ?_) (fun _ => ?_)) | (with_reducible refine grd_dec (fun _ => ?_) (fun _ => ?_)) | (with_reducible refine egrd_dec (fun _ => ?_) (fun _ => ?_)))
  refine loop_w (fun m fr K => ∃ j : Nat, m = xs.length - j ∧ j ≤ xs.length ∧ fr 5 = .int .i64 (j : Int) ∧ K = H ∧ ∀ i, i < j → xs.getD i 0 ≠ r) (n := xs.length) ⟨0, rfl, Nat.zero_le _, by (repeat' (first | (simp (disch := first | omega | (decide +kernel) | (repeat (first | assumption | exact HExt.refl _ | (refine HExt.set ?_ (by first | omega | (simp only [new_nx, set_nx]; omega)) _) | (refine HExt.new ?_ _)))) only [↓RD, RU, accW_t, accW_f, isW, ↓putF_get, ↓putF_none, ↓evF_t, ↓evF_c, ↓evF_f, new_nx, set_nx, new_get, set_get, getD_zero, getD_succ, u_not, pop, lop, aop, wop, resL, resV, tupleV, akV, isVal, isCell, Value.cells, List.map_cons, List.map_nil, Bool.not_true, Bool.not_false, Option.map_some, ↓reduceIte, Nat.reduceEqDiff, Nat.reduceAdd, Int.reduceOfNat, Int.reduceNegSucc, reduceCtorEq, List.getElem?_cons_zero, List.getElem?_cons_succ, List.length_cons, List.length_nil, srcR_c, src_n, src_v, src_s, bnd, lenV, capV, Option.isSome_none, Option.isNone_none, Option.isSome_some, Option.isNone_some, Bool.true_or, Bool.false_or, List.take_succ_cons, List.take_zero, List.drop_succ_cons, List.drop_zero, List.cons_append, List.nil_append, List.drop_nil, List.all_cons, List.all_nil, Bool.true_and, Kd.isRo, List.size_toArray, List.toList_toArray, bldV, Nat.reduceLeDiff, Int.reduceMul, Int.reduceAdd, Int.reduceSub, Int.reduceToNat, maxLen_eq, zeros_one, appS_some, appV_n, appV_v, appH_t, appH_f, Kd.isEx, Bool.false_and, partV, Nat.add_zero, Int.toNat_natCast]) | (with_reducible refine condK_dec (fun _ => ?_) (fun _ => ?_)) | (with_reducible refine grd_dec (fun _ => ?_) (fun _ => ?_)) | (with_reducible refine egrd_dec (fun _ => ?_) (fun _ => ?_)))); all_goals rfl, rfl, fun i hi => absurd hi (Nat.not_lt_zero _)⟩ ?_
  rintro m fr K ⟨j, rfl, hj, f5, rfl, hpre⟩ hag
  by_cases hjl : j < xs.length
  case neg =>
    have hn : r ∉ xs := fun hm => by
      obtain ⟨i, hi, hir⟩ := List.getElem_of_mem hm
      exact hpre i (by omega) (by rw [List.getD_eq_getElem?_getD, List.getElem?_eq_getElem hi]; exact hir)
    repeat' (first | (simp (disch := first | omega | (decide +kernel) | (repeat (first | assumption | exact HExt.refl _ | (refine HExt.set ?_ (by first | omega | (simp only [new_nx, set_nx]; omega)) _) | (refine HExt.new ?_ _)))) only [↓RD, RU, accW_t, accW_f, isW, ↓putF_get, ↓putF_none, ↓evF_t, ↓evF_c, ↓evF_f, new_nx, set_nx, new_get, set_get, getD_zero, getD_succ, u_not, pop, lop, aop, wop, resL, resV, tupleV, akV, isVal, isCell, Value.cells, List.map_cons, List.map_nil, Bool.not_true, Bool.not_false, Option.map_some, ↓reduceIte, Nat.reduceEqDiff, Nat.reduceAdd, Int.reduceOfNat, Int.reduceNegSucc, reduceCtorEq, List.getElem?_cons_zero, List.getElem?_cons_succ, List.length_cons, List.length_nil, srcR_c, src_n, src_v, src_s, bnd, lenV, capV, Option.isSome_none, Option.isNone_none, Option.isSome_some, Option.isNone_some, Bool.true_or, Bool.false_or, List.take_succ_cons, List.take_zero, List.drop_succ_cons, List.drop_zero, List.cons_append, List.nil_append, List.drop_nil, List.all_cons, List.all_nil, Bool.true_and, Kd.isRo, List.size_toArray, List.toList_toArray, bldV, Nat.reduceLeDiff, Int.reduceMul, Int.reduceAdd, Int.reduceSub, Int.reduceToNat, maxLen_eq, zeros_one, appS_some, appV_n, appV_v, appH_t, appH_f, Kd.isEx, Bool.false_and, partV, Nat.add_zero, Int.toNat_natCast, hag, f5]) | (with_reducible refine condK_dec (fun _ => ?_) (fun _ => ?_)) | (with_reducible refine grd_dec (fun _ => ?_) (fun _ => ?_)) | (with_reducible refine egrd_dec (fun _ => ?_) (fun _ => ?_)))
    all_goals first | (rw [decide_eq_false hn]; done) | exact ⟨by rw [decide_eq_false hn], rfl⟩
  obtain ⟨l, o, os, e, kd, rfl, hl1, hc, hm, hob, hol, hos, hwf⟩ := hs.ints (by omega)
  have g1 := hos j hjl
  by_cases he : xs.getD j 0 = r
  · have hn : r ∈ xs := by rw [← he, List.getD_eq_getElem?_getD, List.getElem?_eq_getElem hjl]; exact List.getElem_mem hjl
    rw [he] at g1
    repeat' (first | (simp (disch := first | omega | (decide +kernel) | (repeat (first | assumption | exact HExt.refl _ | (refine HExt.set ?_ (by first | omega | (simp only [new_nx, set_nx]; omega)) _) | (refine HExt.new ?_ _)))) only [↓RD, RU, accW_t, accW_f, isW, ↓putF_get, ↓putF_none, ↓evF_t, ↓evF_c, ↓evF_f, new_nx, set_nx, new_get, set_get, getD_zero, getD_succ, u_not, pop, lop, aop, wop, resL, resV, tupleV, akV, isVal, isCell, Value.cells, List.map_cons, List.map_nil, Bool.not_true, Bool.not_false, Option.map_some, ↓reduceIte, Nat.reduceEqDiff, Nat.reduceAdd, Int.reduceOfNat, Int.reduceNegSucc, reduceCtorEq, List.getElem?_cons_zero, List.getElem?_cons_succ, List.length_cons, List.length_nil, srcR_c, src_n, src_v, src_s, bnd, lenV, capV, Option.isSome_none, Option.isNone_none, Option.isSome_some, Option.isNone_some, Bool.true_or, Bool.false_or, List.take_succ_cons, List.take_zero, List.drop_succ_cons, List.drop_zero, List.cons_append, List.nil_append, List.drop_nil, List.all_cons, List.all_nil, Bool.true_and, Kd.isRo, List.size_toArray, List.toList_toArray, bldV, Nat.reduceLeDiff, Int.reduceMul, Int.reduceAdd, Int.reduceSub, Int.reduceToNat, maxLen_eq, zeros_one, appS_some, appV_n, appV_v, appH_t, appH_f, Kd.isEx, Bool.false_and, partV, Nat.add_zero, Int.toNat_natCast, hag, f5, hob, g1]) | (with_reducible refine condK_dec (fun _ => ?_) (fun _ => ?_)) | (with_reducible refine grd_dec (fun _ => ?_) (fun _ => ?_)) | (with_reducible refine egrd_dec (fun _ => ?_) (fun _ => ?_)))
    all_goals first | (rw [decide_eq_true hn]; done) | exact ⟨by rw [decide_eq_true hn], rfl⟩
  · repeat' (first | (simp (disch := first | omega | (decide +kernel) | (repeat (first | assumption | exact HExt.refl _ | (refine HExt.set ?_ (by first | omega | (simp only [new_nx, set_nx]; omega)) _) | (refine HExt.new ?_ _)))) only [↓RD, RU, accW_t, accW_f, isW, ↓putF_get, ↓putF_none, ↓evF_t, ↓evF_c, ↓evF_f, new_nx, set_nx, new_get, set_get, getD_zero, getD_succ, u_not, pop, lop, aop, wop, resL, resV, tupleV, akV, isVal, isCell, Value.cells, List.map_cons, List.map_nil, Bool.not_true, Bool.not_false, Option.map_some, ↓reduceIte, Nat.reduceEqDiff, Nat.reduceAdd, Int.reduceOfNat, Int.reduceNegSucc, reduceCtorEq, List.getElem?_cons_zero, List.getElem?_cons_succ, List.length_cons, List.length_nil, srcR_c, src_n, src_v, src_s, bnd, lenV, capV, Option.isSome_none, Option.isNone_none, Option.isSome_some, Option.isNone_some, Bool.true_or, Bool.false_or, List.take_succ_cons, List.take_zero, List.drop_succ_cons, List.drop_zero, List.cons_append, List.nil_append, List.drop_nil, List.all_cons, List.all_nil, Bool.true_and, Kd.isRo, List.size_toArray, List.toList_toArray, bldV, Nat.reduceLeDiff, Int.reduceMul, Int.reduceAdd, Int.reduceSub, Int.reduceToNat, maxLen_eq, zeros_one, appS_some, appV_n, appV_v, appH_t, appH_f, Kd.isEx, Bool.false_and, partV, Nat.add_zero, Int.toNat_natCast, hag, f5, hob, g1]) | (with_reducible refine condK_dec (fun _ => ?_) (fun _ => ?_)) | (with_reducible refine grd_dec (fun _ => ?_) (fun _ => ?_)) | (with_reducible refine egrd_dec (fun _ => ?_) (fun _ => ?_)))
    refine ⟨_, by omega, j + 1, rfl, by omega, rfl, fun i hi => ?_⟩
    by_cases hij : i = j
    · rw [hij]; exact he
    · exact hpre i (by omega)
/-- Sums over the first numbers. -/
def ms (f : Nat → Nat) : Nat → Nat
  | 0 => 0
  | n + 1 => ms f n + f n
theorem ms_congr {f g : Nat → Nat} : ∀ {n : Nat}, (∀ t, t < n → f t = g t) → ms f n = ms g n
  | 0, _ => rfl
  | n + 1, h => by
    show ms f n + f n = ms g n + g n
    rw [ms_congr fun t ht => h t (by omega), h n (by omega)]
theorem ms_upd {f g : Nat → Nat} {a : Nat} : ∀ {n : Nat}, a < n → (∀ t, t ≠ a → g t = f t) → ms g n + f a = ms f n + g a
  | 0, h, _ => by omega
  | n + 1, h, k => by
    show ms g n + g n + f a = ms f n + f n + g a
    by_cases e : a = n
    · subst e
      rw [ms_congr (f := g) (g := f) fun t ht => k t (by omega)]; omega
    · have := ms_upd (n := n) (by omega) k
      have := k n (fun h => e h.symm)
      omega
theorem ms_le {f g : Nat → Nat} : ∀ {n : Nat}, (∀ t, f t ≤ g t) → ms f n ≤ ms g n
  | 0, _ => Nat.le_refl _
  | n + 1, h => by
    have := ms_le (n := n) h
    have := h n
    show ms f n + f n ≤ ms g n + g n
    omega
theorem RS.mvB {K0 K K' : CH} {lo bo bb br n R W : Nat} {rows : List Nat} {mm mm0 : List (List Nat)} {nb : List Nat} {bl : List (List WayE)} {nr : List Nat} {rl : List (List Nat)}
    (h : RS K lo bo bb br n R W rows mm nb bl nr rl) (h0 : RS K0 lo bo bb br n R W rows mm0 nb bl nr rl) (hn : K.nx ≤ K'.nx) (hk : ∀ y, y < K0.nx → K'.ob y = K.ob y) : RS K' lo bo bb br n R W rows mm nb bl nr rl := by
  have hnx := h0.nx
  have l1 := h.o.lb
  have l2 := h.b.lb
  have l3 := h.r.lb
  refine ⟨h.o.mv hn (hk _ (by omega)) (fun x hx => hk _ (h0.o.los x hx).2), h.b.mv hn (hk _ (by omega)) (fun x hx => hk _ (h0.b.own hx).2.1), h.r.mv hn (hk _ (by omega)) (fun x hx => hk _ (h0.r.own hx).2.1), h.ne, Nat.le_trans h.nx hn, fun t ht e he => ?_⟩
  obtain ⟨a1, a2⟩ := h.q t ht e he
  refine ⟨a1.mv hn fun l o hq => hk l ((h0.q t ht e he).2 l o hq).2.1, fun l o hq => ?_⟩
  obtain ⟨b1, b2, b3⟩ := a2 l o hq
  exact ⟨b1, Nat.lt_of_lt_of_le b2 hn, b3⟩
theorem b_shlU {k : Nat} (hk : k < 64) : svOf (binOp .shl 0 (.int .u64 1) (.int .u64 (k : Int))) = some (.int .u64 ((2 ^ k : Nat) : Int)) := by
  rw [b_shl (by omega)]
  have h1 : min ((k : Int).toNat) IntKind.u64.bits = k := by simp [IntKind.bits]; omega
  have h2 := pow_lt hk
  rw [h1, Int.one_mul]
  congr 2
  have : ((2 : Int) ^ k) = ((2 ^ k : Nat) : Int) := by simp
  rw [this]
  obtain ⟨p, hp⟩ : ∃ p : Nat, 2 ^ k = p := ⟨_, rfl⟩
  rw [hp] at h2 ⊢
  rw [IntKind.wrap_u64]
  omega
theorem b_andNN {a b : Nat} (ha : a < 18446744073709551616) (hb : b < 18446744073709551616) : svOf (binOp .and 0 (.int .u64 (a : Int)) (.int .u64 (b : Int))) = some (.int .u64 ((a &&& b : Nat) : Int)) := by
  rw [b_and_u64 (by omega) (by omega) (by omega) (by omega)]; simp
theorem and_pow {w k : Nat} : decide (((w &&& 2 ^ k : Nat) : Int) ≠ 0) = w.testBit k := by
  have h : w &&& 2 ^ k = if w.testBit k = true then 2 ^ k else 0 := by
    apply Nat.eq_of_testBit_eq
    intro i
    rw [Nat.testBit_and, Nat.testBit_two_pow]
    by_cases e : k = i
    · subst e
      cases hk : w.testBit k <;> simp [Nat.testBit_two_pow]
    · rw [decide_eq_false e, Bool.and_false]
      split
      · rw [Nat.testBit_two_pow, decide_eq_false e]
      · simp
  have hp : 0 < 2 ^ k := Nat.two_pow_pos k
  rw [h]
  cases hk : w.testBit k with
  | true => rw [if_pos rfl]; exact decide_eq_true (by omega)
  | false => rw [if_neg (by decide)]; rfl
theorem natC_flat : ∀ L : List Nat, L.flatMap natC = L.map (fun (x : Nat) => Value.int .i64 (x : Int))
  | [] => rfl
  | x :: L => by rw [List.flatMap_cons, natC_flat L]; rfl
structure SpI (F : Fn') (n r : Nat) (mm0 mm : List (List Nat)) (td : List Nat) : Prop where
  s1 : ∀ i s, s ≠ r → bitM mm i s = bitM mm0 i s
  s2 : ∀ i, i < n → bitM mm i r = true → Lv F i r
  s2' : ∀ x ∈ td, x < n ∧ Lv F x r
  s3 : ∀ i, i < n → (r : Int) ∈ readsF (F.ins.getD i default) → bitM mm i r = true ∨ i ∈ td
  s4 : ∀ j, j < n → bitM mm j r = true → ∀ i : Nat, ∀ ws, ((j : Int), ws) ∈ waysF F i → (r : Int) ∉ ws → bitM mm i r = true ∨ i ∈ td
set_option maxHeartbeats 4000000 in
theorem spread_wp {K0 : CH} {lo bo bb br n R W : Nat} {rows : List Nat} {mm0 : List (List Nat)} {nb : List Nat} {bl : List (List WayE)} {nr : List Nat} {rl : List (List Nat)} {F : Fn'}
    (h0 : RS K0 lo bo bb br n R W rows mm0 nb bl nr rl) (hs : soundF F = true) (hn : F.ins.length = n) (hnn : n ≤ 1048576) (hrl : rows.length = n) {r : Nat} (hr : r < R) (hrW : r < 64 * W) (hR : R ≤ 65536)
    (hz : ∀ i, bitM mm0 i r = false)
    (hB1 : ∀ t, t < n → ∀ e ∈ bl.getD t [], ∃ j : Nat, j < n ∧ e.t = (j : Int) ∧ ((t : Int), e.ws) ∈ waysF F j)
    (hB2 : ∀ t, t < n → ∀ (j : Nat) ws, ((t : Int), ws) ∈ waysF F j → ∃ e ∈ bl.getD t [], e.t = (j : Int) ∧ e.ws = ws)
    (hRd : ∀ x, x ∈ rl.getD r [] ↔ x < n ∧ (r : Int) ∈ readsF (F.ins.getD x default))
    (hS : ms (fun t => (bl.getD t []).length + 1) n ≤ 8388608) (hL : (rl.getD r []).length ≤ 8388608) :
    WpF (tblG Try.prog LG GG) 38 [.slice (some ⟨bo, 0, none⟩) n n, .slice (some ⟨bb, 0, none⟩) n n, gvV nr rl r, .int .i64 (r : Int)] K0 fun v K => K0.nx ≤ K.nx ∧ (∀ y, y < K0.nx → y ∉ rows → K.ob y = K0.ob y) ∧ ∃ mm, RS K lo bo bb br n R W rows mm nb bl nr rl ∧ (∀ i s, s ≠ r → bitM mm i s = bitM mm0 i s) ∧ ∀ i, i < n → (bitM mm i r = true ↔ Lv F i r) := by
  have hb1 := b_shlU (k := r % 64) (by omega)
  have hq1 : (r : Int) / 64 = ((r / 64 : Nat) : Int) := by simp
  have hq2 : (r : Int) % 64 = ((r % 64 : Nat) : Int) := by simp
  have hlo := h0.nx
  obtain ⟨td0, htd0⟩ : ∃ td0, rl.getD r [] = td0 := ⟨_, rfl⟩
  have hL2 : td0.length ≤ 8388608 := by rw [← htd0]; exact hL
  have hcp : ∀ (K1 : CH) (l : Nat) (Q : Value → CH → Prop), HExt K0 K1 → K0.nx ≤ l → K1.ob l = .cells [] 3 .ex → l < K1.nx → (∀ v K2, K1.nx ≤ K2.nx → (∀ y, y < K0.nx → K2.ob y = K0.ob y) → TD K0.nx K2 v td0 → Q v K2) → optW (appS (srcCells K1 1 (gvV nr rl r)) 3 1 8 (.slice (some ⟨l, 0, none⟩) 0 0) K1) Q := by
    intro K1 l Q hx hl hobl hl1 k
    have hmap : td0.map (Value.int .i64 ∘ fun (x : Nat) => (x : Int)) = (td0.map (fun (x : Nat) => (x : Int))).map (.int .i64) := by rw [List.map_map]
    obtain ⟨q, c, hv, hsl⟩ : ∃ q c, gvV nr rl r = .slice q (td0.map (fun (x : Nat) => (x : Int))).length c ∧ SlAt 1 (CInt .i64) K0 q c (td0.map (fun (x : Nat) => (x : Int))) := by
      unfold gvV
      have hrow := h0.r.row r hr
      have hmem : ∀ x ∈ td0, x < n := fun x hx => ((hRd x).1 (by rw [htd0]; exact hx)).1
      rw [htd0] at hrow ⊢
      by_cases e : td0.length = 0
      · have : td0 = [] := List.length_eq_zero_iff.1 e
        rw [if_pos e, this]
        exact ⟨none, 0, rfl, .inl ⟨rfl, rfl, .inl rfl⟩⟩
      · obtain ⟨a1, a2, a3⟩ := hrow e
        rw [if_neg e]
        rw [natC_flat] at a3
        refine ⟨some ⟨nr.getD r 0, 0, none⟩, td0.length, by simp, .inr ⟨_, 0, _, _, _, rfl, a2, by simp, by rw [maxLen_eq]; omega, a3, by simp, fun i hi => ?_⟩⟩
        have hi' : i < td0.length := by simpa using hi
        have hxn := hmem _ (List.getElem_mem hi')
        have e2 : (td0.map (fun (x : Nat) => (x : Int)))[i] = ((td0[i] : Nat) : Int) := by simp
        refine ⟨?_, ?_⟩
        · rw [Nat.zero_add, Nat.mul_one, ← List.map_drop, ← List.map_take, List.drop_eq_getElem_cons hi', e2]
          rfl
        · rw [e2]
          simp [Lit.wf, IntKind.min, IntKind.max, IntKind.signed, IntKind.bits]; omega
    rw [hv]
    refine copy_ints (K := K0) hsl hx (by simp; rw [htd0] at hL; omega) (by simp; rw [htd0] at hL; omega) hobl hl1 fun x c2 K2 kd h1 h2 h3 h4 h5 h6 h7 h8 => k _ K2 h1 (fun y hy => (h2 y (by have := hx.nx; omega)).trans (hx.ob y hy)) ?_
    refine ⟨x, c2, _, kd, by simp, h5, h6, by simp, by simpa using h7, h8, by have := hx.nx; omega, h4, by rw [← List.map_take, List.take_of_length_le (by simp), List.map_map]; rfl⟩
  refine wpF_rG (by rfl) (by kernel_rfl) ?_; (conv in (rF _ _).body => reduce); (conv in (rF _ _).res => reduce)
  repeat' (first | (simp (disch := first | omega | (decide +kernel) | (repeat (first | assumption | exact HExt.refl _ | (refine HExt.set ?_ (by first | omega | (simp only [new_nx, set_nx]; omega)) _) | (refine HExt.new ?_ _)))) only [↓RD, RU, accW_t, accW_f, isW, ↓putF_get, ↓putF_none, ↓evF_t, ↓evF_c, ↓evF_f, new_nx, set_nx, new_get, set_get, getD_zero, getD_succ, u_not, pop, lop, aop, wop, resL, resV, tupleV, akV, isVal, isCell, Value.cells, List.map_cons, List.map_nil, Bool.not_true, Bool.not_false, Option.map_some, ↓reduceIte, Nat.reduceEqDiff, Nat.reduceAdd, Int.reduceOfNat, Int.reduceNegSucc, reduceCtorEq, List.getElem?_cons_zero, List.getElem?_cons_succ, List.length_cons, List.length_nil, srcR_c, src_n, src_v, src_s, bnd, lenV, capV, Option.isSome_none, Option.isNone_none, Option.isSome_some, Option.isNone_some, Bool.true_or, Bool.false_or, List.take_succ_cons, List.take_zero, List.drop_succ_cons, List.drop_zero, List.cons_append, List.nil_append, List.drop_nil, List.all_cons, List.all_nil, Bool.true_and, Kd.isRo, List.size_toArray, List.toList_toArray, bldV, Nat.reduceLeDiff, Int.reduceMul, Int.reduceAdd, Int.reduceSub, Int.reduceToNat, maxLen_eq, zeros_one, appS_some, appV_n, appV_v, appH_t, appH_f, Kd.isEx, Bool.false_and, partV, Nat.add_zero, Int.toNat_natCast, hq2, hb1]) | (with_reducible refine condK_dec (fun _ => ?_) (fun _ => ?_)) | (with_reducible refine grd_dec (fun _ => ?_) (fun _ => ?_)) | (with_reducible refine egrd_dec (fun _ => ?_) (fun _ => ?_)))
  refine hcp _ _ _ (by (repeat (first | assumption | exact HExt.refl _ | (refine HExt.set ?_ (by first | omega | (simp only [new_nx, set_nx]; omega)) _) | (refine HExt.new ?_ _)))) (Nat.le_refl _) (by (repeat' (first | (simp (disch := first | omega | (decide +kernel) | (repeat (first | assumption | exact HExt.refl _ | (refine HExt.set ?_ (by first | omega | (simp only [new_nx, set_nx]; omega)) _) | (refine HExt.new ?_ _)))) only [↓RD, RU, accW_t, accW_f, isW, ↓putF_get, ↓putF_none, ↓evF_t, ↓evF_c, ↓evF_f, new_nx, set_nx, new_get, set_get, getD_zero, getD_succ, u_not, pop, lop, aop, wop, resL, resV, tupleV, akV, isVal, isCell, Value.cells, List.map_cons, List.map_nil, Bool.not_true, Bool.not_false, Option.map_some, ↓reduceIte, Nat.reduceEqDiff, Nat.reduceAdd, Int.reduceOfNat, Int.reduceNegSucc, reduceCtorEq, List.getElem?_cons_zero, List.getElem?_cons_succ, List.length_cons, List.length_nil, srcR_c, src_n, src_v, src_s, bnd, lenV, capV, Option.isSome_none, Option.isNone_none, Option.isSome_some, Option.isNone_some, Bool.true_or, Bool.false_or, List.take_succ_cons, List.take_zero, List.drop_succ_cons, List.drop_zero, List.cons_append, List.nil_append, List.drop_nil, List.all_cons, List.all_nil, Bool.true_and, Kd.isRo, List.size_toArray, List.toList_toArray, bldV, Nat.reduceLeDiff, Int.reduceMul, Int.reduceAdd, Int.reduceSub, Int.reduceToNat, maxLen_eq, zeros_one, appS_some, appV_n, appV_v, appH_t, appH_f, Kd.isEx, Bool.false_and, partV, Nat.add_zero, Int.toNat_natCast]) | (with_reducible refine condK_dec (fun _ => ?_) (fun _ => ?_)) | (with_reducible refine grd_dec (fun _ => ?_) (fun _ => ?_)) | (with_reducible refine egrd_dec (fun _ => ?_) (fun _ => ?_)))); all_goals rfl) (by first | omega | (simp only [new_nx, set_nx]; omega)) fun v K1 hn1 hk1 hT1 => ?_
  have hn1' : K0.nx + 1 ≤ K1.nx := hn1
  repeat' (first | (simp (disch := first | omega | (decide +kernel) | (repeat (first | assumption | exact HExt.refl _ | (refine HExt.set ?_ (by first | omega | (simp only [new_nx, set_nx]; omega)) _) | (refine HExt.new ?_ _)))) only [↓RD, RU, accW_t, accW_f, isW, ↓putF_get, ↓putF_none, ↓evF_t, ↓evF_c, ↓evF_f, new_nx, set_nx, new_get, set_get, getD_zero, getD_succ, u_not, pop, lop, aop, wop, resL, resV, tupleV, akV, isVal, isCell, Value.cells, List.map_cons, List.map_nil, Bool.not_true, Bool.not_false, Option.map_some, ↓reduceIte, Nat.reduceEqDiff, Nat.reduceAdd, Int.reduceOfNat, Int.reduceNegSucc, reduceCtorEq, List.getElem?_cons_zero, List.getElem?_cons_succ, List.length_cons, List.length_nil, srcR_c, src_n, src_v, src_s, bnd, lenV, capV, Option.isSome_none, Option.isNone_none, Option.isSome_some, Option.isNone_some, Bool.true_or, Bool.false_or, List.take_succ_cons, List.take_zero, List.drop_succ_cons, List.drop_zero, List.cons_append, List.nil_append, List.drop_nil, List.all_cons, List.all_nil, Bool.true_and, Kd.isRo, List.size_toArray, List.toList_toArray, bldV, Nat.reduceLeDiff, Int.reduceMul, Int.reduceAdd, Int.reduceSub, Int.reduceToNat, maxLen_eq, zeros_one, appS_some, appV_n, appV_v, appH_t, appH_f, Kd.isEx, Bool.false_and, partV, Nat.add_zero, Int.toNat_natCast]) | (with_reducible refine condK_dec (fun _ => ?_) (fun _ => ?_)) | (with_reducible refine grd_dec (fun _ => ?_) (fun _ => ?_)) | (with_reducible refine egrd_dec (fun _ => ?_) (fun _ => ?_)))
  have hlv0 : ∀ x ∈ td0, x < n ∧ Lv F x r := fun x hx => by
    have := (hRd x).1 (by rw [htd0]; exact hx)
    exact ⟨this.1, .read (by omega) this.2⟩
  obtain ⟨g, hg⟩ : ∃ g : List (List Nat) → Nat → Nat, g = fun mm t => if bitM mm t r = true then 0 else (bl.getD t []).length + 1 := ⟨_, rfl⟩
  have hg0 : ms (g mm0) n ≤ 8388608 := Nat.le_trans (ms_le fun t => by rw [hg]; simp only; split <;> omega) hS
  refine loop_w (fun m fr K => ∃ mm td, m = ms (g mm) n + td.length ∧ ms (g mm) n + td.length ≤ 16777216 ∧ K0.nx ≤ K.nx ∧ (∀ y, y < K0.nx → y ∉ rows → K.ob y = K0.ob y) ∧ RS K lo bo bb br n R W rows mm nb bl nr rl ∧ TD K0.nx K (fr 2) td ∧ SpI F n r mm0 mm td) (n := ms (g mm0) n + td0.length)
    ⟨mm0, td0, rfl, by rw [htd0] at hL; omega, by omega, fun y hy _ => hk1 y hy, h0.mvB h0 (by omega) hk1, by (repeat' (first | (simp (disch := first | omega | (decide +kernel) | (repeat (first | assumption | exact HExt.refl _ | (refine HExt.set ?_ (by first | omega | (simp only [new_nx, set_nx]; omega)) _) | (refine HExt.new ?_ _)))) only [↓RD, RU, accW_t, accW_f, isW, ↓putF_get, ↓putF_none, ↓evF_t, ↓evF_c, ↓evF_f, new_nx, set_nx, new_get, set_get, getD_zero, getD_succ, u_not, pop, lop, aop, wop, resL, resV, tupleV, akV, isVal, isCell, Value.cells, List.map_cons, List.map_nil, Bool.not_true, Bool.not_false, Option.map_some, ↓reduceIte, Nat.reduceEqDiff, Nat.reduceAdd, Int.reduceOfNat, Int.reduceNegSucc, reduceCtorEq, List.getElem?_cons_zero, List.getElem?_cons_succ, List.length_cons, List.length_nil, srcR_c, src_n, src_v, src_s, bnd, lenV, capV, Option.isSome_none, Option.isNone_none, Option.isSome_some, Option.isNone_some, Bool.true_or, Bool.false_or, List.take_succ_cons, List.take_zero, List.drop_succ_cons, List.drop_zero, List.cons_append, List.nil_append, List.drop_nil, List.all_cons, List.all_nil, Bool.true_and, Kd.isRo, List.size_toArray, List.toList_toArray, bldV, Nat.reduceLeDiff, Int.reduceMul, Int.reduceAdd, Int.reduceSub, Int.reduceToNat, maxLen_eq, zeros_one, appS_some, appV_n, appV_v, appH_t, appH_f, Kd.isEx, Bool.false_and, partV, Nat.add_zero, Int.toNat_natCast]) | (with_reducible refine condK_dec (fun _ => ?_) (fun _ => ?_)) | (with_reducible refine grd_dec (fun _ => ?_) (fun _ => ?_)) | (with_reducible refine egrd_dec (fun _ => ?_) (fun _ => ?_)))); exact hT1, ⟨fun _ _ _ => rfl, fun i hi h => (by rw [hz] at h; cases h), hlv0, fun i hi h => .inr (by rw [← htd0]; exact (hRd i).2 ⟨hi, h⟩), fun j hj h => (by rw [hz] at h; cases h)⟩⟩ ?_
  rintro m fr K ⟨mm, td, rfl, hM, hKn, hKx, hRS, hT, hI⟩ hag
  have hml : mm.length = n := by rw [← hRS.o.len]; exact hrl
  rcases List.eq_nil_or_concat td with rfl | ⟨tr, a, rfl⟩
  · obtain ⟨l, c, cs, kd, f2, hob, hk, h1, h2, h3, h4, h5, h6⟩ := hT
    simp only [List.length_nil] at f2
    repeat' (first | (simp (disch := first | omega | (decide +kernel) | (repeat (first | assumption | exact HExt.refl _ | (refine HExt.set ?_ (by first | omega | (simp only [new_nx, set_nx]; omega)) _) | (refine HExt.new ?_ _)))) only [↓RD, RU, accW_t, accW_f, isW, ↓putF_get, ↓putF_none, ↓evF_t, ↓evF_c, ↓evF_f, new_nx, set_nx, new_get, set_get, getD_zero, getD_succ, u_not, pop, lop, aop, wop, resL, resV, tupleV, akV, isVal, isCell, Value.cells, List.map_cons, List.map_nil, Bool.not_true, Bool.not_false, Option.map_some, ↓reduceIte, Nat.reduceEqDiff, Nat.reduceAdd, Int.reduceOfNat, Int.reduceNegSucc, reduceCtorEq, List.getElem?_cons_zero, List.getElem?_cons_succ, List.length_cons, List.length_nil, srcR_c, src_n, src_v, src_s, bnd, lenV, capV, Option.isSome_none, Option.isNone_none, Option.isSome_some, Option.isNone_some, Bool.true_or, Bool.false_or, List.take_succ_cons, List.take_zero, List.drop_succ_cons, List.drop_zero, List.cons_append, List.nil_append, List.drop_nil, List.all_cons, List.all_nil, Bool.true_and, Kd.isRo, List.size_toArray, List.toList_toArray, bldV, Nat.reduceLeDiff, Int.reduceMul, Int.reduceAdd, Int.reduceSub, Int.reduceToNat, maxLen_eq, zeros_one, appS_some, appV_n, appV_v, appH_t, appH_f, Kd.isEx, Bool.false_and, partV, Nat.add_zero, Int.toNat_natCast, f2, hag]) | (with_reducible refine condK_dec (fun _ => ?_) (fun _ => ?_)) | (with_reducible refine grd_dec (fun _ => ?_) (fun _ => ?_)) | (with_reducible refine egrd_dec (fun _ => ?_) (fun _ => ?_)))
    refine ⟨hKn, hKx, mm, hRS, hI.s1, fun i hi => ⟨hI.s2 i hi, fun hL => ?_⟩⟩
    have hcl : ∀ j, Lv F j r → j < n → bitM mm j r = true := by
      intro j hj
      generalize hrr : r = r' at hj
      induction hj with
      | read hj hr =>
        subst hrr
        intro hjn
        rcases hI.s3 _ hjn hr with h | h
        · exact h
        · cases h
      | @step j r2 p hp h hw ih =>
        subst hrr
        intro hjn
        have hin := ways_in hs hp
        have := ih rfl (by omega)
        rcases hI.s4 p.1.toNat (by omega) this j p.2 (by rw [show ((p.1.toNat : Nat) : Int) = p.1 by omega]; exact hp) hw with h | h
        · exact h
        · cases h
    exact hcl i hL hi
  rw [List.concat_eq_append] at *
  obtain ⟨l, c, cs, kd, f2, hob, hk, h1, h2, h3, h4, h5, h6⟩ := hT
  simp only [List.length_append, List.length_singleton, List.map_append, List.map_cons, List.map_nil] at f2 h1 h2 h6 hM
  obtain ⟨hga, htk⟩ := take_last h6 (by simp)
  have han := (hI.s2' a (by simp)).1
  have haL := (hI.s2' a (by simp)).2
  have e1 : ((tr.length : Int) + 1 - 1) = (tr.length : Int) := by omega
  have hslv : sliceV 1 (.slice (some ⟨l, 0, none⟩) (tr.length + 1) c) 0 (tr.length : Int) (c : Int) false = some (.slice (some ⟨l, 0, none⟩) tr.length c) := by
    unfold sliceV
    simp only [Bool.false_eq_true, if_false]
    rw [if_pos (by omega), if_neg (by omega)]
    simp
  have hok : okSl K 3 (.slice (some ⟨l, 0, none⟩) (tr.length + 1) c) = true := by
    simp only [okSl, hob]; cases kd <;> simp
  have hTr : TD K0.nx K (.slice (some ⟨l, 0, none⟩) tr.length c) tr := ⟨l, c, cs, kd, rfl, hob, hk, by omega, by omega, h3, h4, h5, htk⟩
  have hout := hRS.o.out
  have hgo := outC_get (W := W) (n := n) (rows := rows) (i := a) (by omega)
  have hrow := hRS.o.row a (by omega)
  have hwl := hRS.o.wl a (by omega)
  have hww := hRS.o.w64 a (by omega)
  obtain ⟨ra, hra⟩ : ∃ ra, rows.getD a 0 = ra := ⟨_, rfl⟩
  obtain ⟨wa, hwa⟩ : ∃ wa, mm.getD a [] = wa := ⟨_, rfl⟩
  have hput := hRS.put (i := a) (by omega) (ws := wa.set (r / 64) (wa.getD (r / 64) 0 ||| 2 ^ (r % 64))) (by rw [List.length_set, ← hwa]; exact hwl) ((hwa ▸ hww).set (or_lt ((hwa ▸ hww).get _) (pow_lt (by omega))))
  rw [hra] at hgo hrow hput
  rw [hwa] at hrow hwl hww
  have hgw := wordC_get (ws := wa) (i := r / 64) (by omega)
  have hsw := wordC_set (ws := wa) (i := r / 64) (x := wa.getD (r / 64) 0 ||| 2 ^ (r % 64)) (by omega)
  have hand := b_andNN (hww.get (r / 64)) (pow_lt (k := r % 64) (by omega))
  have hor := b_orN (hww.get (r / 64)) (pow_lt (k := r % 64) (by omega))
  have hap := and_pow (w := wa.getD (r / 64) 0) (k := r % 64)
  have hbt : bitM mm a r = (wa.getD (r / 64) 0).testBit (r % 64) := by unfold bitM bitW; rw [hwa]
  rw [← hbt] at hap
  have houl := outC_len (W := W) (n := n) (rows := rows) (by omega)
  cases hba : bitM mm a r with
  | true =>
    rw [hba] at hap
    repeat' (first | (simp (disch := first | omega | (decide +kernel) | (repeat (first | assumption | exact HExt.refl _ | (refine HExt.set ?_ (by first | omega | (simp only [new_nx, set_nx]; omega)) _) | (refine HExt.new ?_ _)))) only [↓RD, RU, accW_t, accW_f, isW, ↓putF_get, ↓putF_none, ↓evF_t, ↓evF_c, ↓evF_f, new_nx, set_nx, new_get, set_get, getD_zero, getD_succ, u_not, pop, lop, aop, wop, resL, resV, tupleV, akV, isVal, isCell, Value.cells, List.map_cons, List.map_nil, Bool.not_true, Bool.not_false, Option.map_some, ↓reduceIte, Nat.reduceEqDiff, Nat.reduceAdd, Int.reduceOfNat, Int.reduceNegSucc, reduceCtorEq, List.getElem?_cons_zero, List.getElem?_cons_succ, List.length_cons, List.length_nil, srcR_c, src_n, src_v, src_s, bnd, lenV, capV, Option.isSome_none, Option.isNone_none, Option.isSome_some, Option.isNone_some, Bool.true_or, Bool.false_or, List.take_succ_cons, List.take_zero, List.drop_succ_cons, List.drop_zero, List.cons_append, List.nil_append, List.drop_nil, List.all_cons, List.all_nil, Bool.true_and, Kd.isRo, List.size_toArray, List.toList_toArray, bldV, Nat.reduceLeDiff, Int.reduceMul, Int.reduceAdd, Int.reduceSub, Int.reduceToNat, maxLen_eq, zeros_one, appS_some, appV_n, appV_v, appH_t, appH_f, Kd.isEx, Bool.false_and, partV, Nat.add_zero, Int.toNat_natCast, f2, hag, e1, hob, hga, hslv, hok, Int.natCast_add, Int.cast_ofNat_Int, hout, hgo, houl, hrow, wordC_len, hwl, hq1, hgw, hand, hap]) | (with_reducible refine condK_dec (fun _ => ?_) (fun _ => ?_)) | (with_reducible refine grd_dec (fun _ => ?_) (fun _ => ?_)) | (with_reducible refine egrd_dec (fun _ => ?_) (fun _ => ?_)))
    refine ⟨_, by simp, mm, tr, rfl, by omega, hKn, hKx, hRS, hTr, ⟨hI.s1, hI.s2, fun x hx => hI.s2' x (by simp [hx]), fun i hi h => ?_, fun j hj h i ws hw hr' => ?_⟩⟩
    · rcases hI.s3 i hi h with h | h
      · exact .inl h
      · rcases List.mem_append.1 h with h | h
        · exact .inr h
        · simp at h; subst h; exact .inl hba
    · rcases hI.s4 j hj h i ws hw hr' with h | h
      · exact .inl h
      · rcases List.mem_append.1 h with h | h
        · exact .inr h
        · simp at h; subst h; exact .inl hba
  | false =>
    rw [hba] at hap
    repeat' (first | (simp (disch := first | omega | (decide +kernel) | (repeat (first | assumption | exact HExt.refl _ | (refine HExt.set ?_ (by first | omega | (simp only [new_nx, set_nx]; omega)) _) | (refine HExt.new ?_ _)))) only [↓RD, RU, accW_t, accW_f, isW, ↓putF_get, ↓putF_none, ↓evF_t, ↓evF_c, ↓evF_f, new_nx, set_nx, new_get, set_get, getD_zero, getD_succ, u_not, pop, lop, aop, wop, resL, resV, tupleV, akV, isVal, isCell, Value.cells, List.map_cons, List.map_nil, Bool.not_true, Bool.not_false, Option.map_some, ↓reduceIte, Nat.reduceEqDiff, Nat.reduceAdd, Int.reduceOfNat, Int.reduceNegSucc, reduceCtorEq, List.getElem?_cons_zero, List.getElem?_cons_succ, List.length_cons, List.length_nil, srcR_c, src_n, src_v, src_s, bnd, lenV, capV, Option.isSome_none, Option.isNone_none, Option.isSome_some, Option.isNone_some, Bool.true_or, Bool.false_or, List.take_succ_cons, List.take_zero, List.drop_succ_cons, List.drop_zero, List.cons_append, List.nil_append, List.drop_nil, List.all_cons, List.all_nil, Bool.true_and, Kd.isRo, List.size_toArray, List.toList_toArray, bldV, Nat.reduceLeDiff, Int.reduceMul, Int.reduceAdd, Int.reduceSub, Int.reduceToNat, maxLen_eq, zeros_one, appS_some, appV_n, appV_v, appH_t, appH_f, Kd.isEx, Bool.false_and, partV, Nat.add_zero, Int.toNat_natCast, f2, hag, e1, hob, hga, hslv, hok, Int.natCast_add, Int.cast_ofNat_Int, hout, hgo, houl, hrow, wordC_len, hwl, hq1, hgw, hand, hap, hor, ↓hsw]) | (with_reducible refine condK_dec (fun _ => ?_) (fun _ => ?_)) | (with_reducible refine grd_dec (fun _ => ?_) (fun _ => ?_)) | (with_reducible refine egrd_dec (fun _ => ?_) (fun _ => ?_)))
    obtain ⟨Ks, hKs⟩ : ∃ Ks, K.set ra (.cells (wordC (wa.set (r / 64) (wa.getD (r / 64) 0 ||| 2 ^ (r % 64)))) 40 .ex) = Ks := ⟨_, rfl⟩
    rw [hKs] at hput ⊢
    obtain ⟨mm2, hmm2⟩ : ∃ mm2, mm.set a (wa.set (r / 64) (wa.getD (r / 64) 0 ||| 2 ^ (r % 64))) = mm2 := ⟨_, rfl⟩
    rw [hmm2] at hput
    have hras : ra ∈ rows := by rw [← hra]; exact getD_mem (by omega)
    have hrlo := h0.o.los ra hras
    have hKsn : Ks.nx = K.nx := by rw [← hKs]; rfl
    have hKso : ∀ y, y ≠ ra → Ks.ob y = K.ob y := fun y hy => by rw [← hKs, set_get, if_neg hy]
    have hTs : TD K0.nx Ks (.slice (some ⟨l, 0, none⟩) tr.length c) tr := hTr.mv (by omega) fun y o n c e _ => by cases e; exact hKso l (by omega)
    have hbit2 : ∀ i s, bitM mm2 i s = (bitM mm i s || (decide (i = a) && decide (s = r))) := fun i s => by
      rw [← hmm2, bitM_set (by omega)]
      by_cases e : i = a
      · rw [if_pos e, bitW_or (by omega)]
        subst e
        unfold bitM
        rw [hwa]; simp
      · rw [if_neg e]; simp [e]
    have hgd : ms (g mm2) n + ((bl.getD a []).length + 1) = ms (g mm) n := by
      have := ms_upd (f := g mm) (g := g mm2) (a := a) (n := n) han fun t ht => by
        rw [hg]; simp only [hbit2]; simp [ht]
      have g1 : g mm a = (bl.getD a []).length + 1 := by rw [hg]; simp [hba]
      have g2 : g mm2 a = 0 := by rw [hg]; simp [hbit2]
      omega
    obtain ⟨ls, hls⟩ : ∃ ls, bl.getD a [] = ls := ⟨_, rfl⟩
    rw [hls] at hgd
    obtain ⟨pu, hpu⟩ : ∃ pu : Nat → List Nat, pu = fun k => ((ls.take k).filter (fun e => !decide ((r : Int) ∈ e.ws))).map (·.t.toNat) := ⟨_, rfl⟩
    have hpul : ∀ k, (pu k).length ≤ ls.length := fun k => by
      rw [hpu]
      simp only [List.length_map]
      exact Nat.le_trans (List.length_filter_le _ _) (by simp; omega)
    refine loop_w (fun m fr G => ∃ k : Nat, m = ls.length - k ∧ k ≤ ls.length ∧ fr 10 = .int .i64 (k : Int) ∧ K.nx ≤ G.nx ∧ (∀ y, y < K0.nx → G.ob y = Ks.ob y) ∧ TD K0.nx G (fr 2) (tr ++ pu k)) (n := ls.length)
      ⟨0, rfl, Nat.zero_le _, by (repeat' (first | (simp (disch := first | omega | (decide +kernel) | (repeat (first | assumption | exact HExt.refl _ | (refine HExt.set ?_ (by first | omega | (simp only [new_nx, set_nx]; omega)) _) | (refine HExt.new ?_ _)))) only [↓RD, RU, accW_t, accW_f, isW, ↓putF_get, ↓putF_none, ↓evF_t, ↓evF_c, ↓evF_f, new_nx, set_nx, new_get, set_get, getD_zero, getD_succ, u_not, pop, lop, aop, wop, resL, resV, tupleV, akV, isVal, isCell, Value.cells, List.map_cons, List.map_nil, Bool.not_true, Bool.not_false, Option.map_some, ↓reduceIte, Nat.reduceEqDiff, Nat.reduceAdd, Int.reduceOfNat, Int.reduceNegSucc, reduceCtorEq, List.getElem?_cons_zero, List.getElem?_cons_succ, List.length_cons, List.length_nil, srcR_c, src_n, src_v, src_s, bnd, lenV, capV, Option.isSome_none, Option.isNone_none, Option.isSome_some, Option.isNone_some, Bool.true_or, Bool.false_or, List.take_succ_cons, List.take_zero, List.drop_succ_cons, List.drop_zero, List.cons_append, List.nil_append, List.drop_nil, List.all_cons, List.all_nil, Bool.true_and, Kd.isRo, List.size_toArray, List.toList_toArray, bldV, Nat.reduceLeDiff, Int.reduceMul, Int.reduceAdd, Int.reduceSub, Int.reduceToNat, maxLen_eq, zeros_one, appS_some, appV_n, appV_v, appH_t, appH_f, Kd.isEx, Bool.false_and, partV, Nat.add_zero, Int.toNat_natCast]) | (with_reducible refine condK_dec (fun _ => ?_) (fun _ => ?_)) | (with_reducible refine grd_dec (fun _ => ?_) (fun _ => ?_)) | (with_reducible refine egrd_dec (fun _ => ?_) (fun _ => ?_)))); all_goals rfl, by omega, fun _ _ => rfl, by (repeat' (first | (simp (disch := first | omega | (decide +kernel) | (repeat (first | assumption | exact HExt.refl _ | (refine HExt.set ?_ (by first | omega | (simp only [new_nx, set_nx]; omega)) _) | (refine HExt.new ?_ _)))) only [↓RD, RU, accW_t, accW_f, isW, ↓putF_get, ↓putF_none, ↓evF_t, ↓evF_c, ↓evF_f, new_nx, set_nx, new_get, set_get, getD_zero, getD_succ, u_not, pop, lop, aop, wop, resL, resV, tupleV, akV, isVal, isCell, Value.cells, List.map_cons, List.map_nil, Bool.not_true, Bool.not_false, Option.map_some, ↓reduceIte, Nat.reduceEqDiff, Nat.reduceAdd, Int.reduceOfNat, Int.reduceNegSucc, reduceCtorEq, List.getElem?_cons_zero, List.getElem?_cons_succ, List.length_cons, List.length_nil, srcR_c, src_n, src_v, src_s, bnd, lenV, capV, Option.isSome_none, Option.isNone_none, Option.isSome_some, Option.isNone_some, Bool.true_or, Bool.false_or, List.take_succ_cons, List.take_zero, List.drop_succ_cons, List.drop_zero, List.cons_append, List.nil_append, List.drop_nil, List.all_cons, List.all_nil, Bool.true_and, Kd.isRo, List.size_toArray, List.toList_toArray, bldV, Nat.reduceLeDiff, Int.reduceMul, Int.reduceAdd, Int.reduceSub, Int.reduceToNat, maxLen_eq, zeros_one, appS_some, appV_n, appV_v, appH_t, appH_f, Kd.isEx, Bool.false_and, partV, Nat.add_zero, Int.toNat_natCast]) | (with_reducible refine condK_dec (fun _ => ?_) (fun _ => ?_)) | (with_reducible refine grd_dec (fun _ => ?_) (fun _ => ?_)) | (with_reducible refine egrd_dec (fun _ => ?_) (fun _ => ?_)))); simpa [hpu] using hTs⟩ ?_
    rintro m fr4 G ⟨k, rfl, hk', f10, hGn, hGx, hTG⟩ hag4
    have hRG : RS G lo bo bb br n R W rows mm2 nb bl nr rl := hput.mvB h0 (by omega) hGx
    obtain ⟨vs, hvs, hvl, hvj⟩ := hRG.b.vs
    have hva := hvj a han
    unfold gvV at hva
    rw [hls] at hva
    have hGk : ∀ y, y < K0.nx → y ∉ rows → G.ob y = K0.ob y := fun y h1 h2 => by
      rw [hGx y h1, hKso y (fun e => h2 (e ▸ hras))]; exact hKx y h1 h2
    have hI2 : k = ls.length → SpI F n r mm0 mm2 (tr ++ pu k) := fun hkk => by
      have hold : ∀ i, bitM mm i r = true ∨ i ∈ tr ++ [a] → bitM mm2 i r = true ∨ i ∈ tr ++ pu k := fun i h => by
        rcases h with h | h
        · left; rw [hbit2, h]; rfl
        · rcases List.mem_append.1 h with h | h
          · exact .inr (List.mem_append_left _ h)
          · simp at h; subst h; left; rw [hbit2]; simp
      refine ⟨fun i s hs' => by rw [hbit2, decide_eq_false hs']; simpa using hI.s1 i s hs', fun i hi h => ?_, fun x hx => ?_, fun i hi h => hold i (hI.s3 i hi h), fun j hj h i ws hw hr' => ?_⟩
      · rw [hbit2] at h
        by_cases e : i = a
        · rw [e]; exact haL
        · simp [e] at h; exact hI.s2 i hi h
      · rcases List.mem_append.1 hx with hx | hx
        · exact hI.s2' x (by simp [hx])
        · rw [hpu] at hx
          obtain ⟨e, he, rfl⟩ := List.mem_map.1 hx
          obtain ⟨he1, he2⟩ := List.mem_filter.1 he
          obtain ⟨j, hj, hje, hjw⟩ := hB1 a han e (by rw [hls]; exact List.mem_of_mem_take he1)
          have : e.t.toNat = j := by omega
          rw [this]
          refine ⟨hj, .step (p := ((a : Int), e.ws)) hjw ?_ (by simpa using he2)⟩
          simpa using haL
      · rw [hbit2] at h
        by_cases e : j = a
        · subst e
          obtain ⟨x, hx, hxt, hxw⟩ := hB2 j han i ws hw
          right
          refine List.mem_append_right _ ?_
          rw [hpu, hkk]
          refine List.mem_map.2 ⟨x, List.mem_filter.2 ⟨by rw [List.take_length, ← hls]; exact hx, ?_⟩, by omega⟩
          rw [hxw]; simp [hr']
        · simp [e] at h
          exact hold i (hI.s4 j hj h i ws hw hr')
    by_cases hkl : k < ls.length
    case neg =>
      have hkk : k = ls.length := by omega
      have hpk := hpul k
      have hll : (if ls.length = 0 then Value.slice none 0 0 else .slice (some ⟨nb.getD a 0, 0, none⟩) ls.length ls.length) = (if ls.length = 0 then Value.slice none 0 0 else .slice (some ⟨nb.getD a 0, 0, none⟩) ls.length ls.length) := rfl
      by_cases hl0 : ls.length = 0
      · rw [if_pos hl0] at hva
        repeat' (first | (simp (disch := first | omega | (decide +kernel) | (repeat (first | assumption | exact HExt.refl _ | (refine HExt.set ?_ (by first | omega | (simp only [new_nx, set_nx]; omega)) _) | (refine HExt.new ?_ _)))) only [↓RD, RU, accW_t, accW_f, isW, ↓putF_get, ↓putF_none, ↓evF_t, ↓evF_c, ↓evF_f, new_nx, set_nx, new_get, set_get, getD_zero, getD_succ, u_not, pop, lop, aop, wop, resL, resV, tupleV, akV, isVal, isCell, Value.cells, List.map_cons, List.map_nil, Bool.not_true, Bool.not_false, Option.map_some, ↓reduceIte, Nat.reduceEqDiff, Nat.reduceAdd, Int.reduceOfNat, Int.reduceNegSucc, reduceCtorEq, List.getElem?_cons_zero, List.getElem?_cons_succ, List.length_cons, List.length_nil, srcR_c, src_n, src_v, src_s, bnd, lenV, capV, Option.isSome_none, Option.isNone_none, Option.isSome_some, Option.isNone_some, Bool.true_or, Bool.false_or, List.take_succ_cons, List.take_zero, List.drop_succ_cons, List.drop_zero, List.cons_append, List.nil_append, List.drop_nil, List.all_cons, List.all_nil, Bool.true_and, Kd.isRo, List.size_toArray, List.toList_toArray, bldV, Nat.reduceLeDiff, Int.reduceMul, Int.reduceAdd, Int.reduceSub, Int.reduceToNat, maxLen_eq, zeros_one, appS_some, appV_n, appV_v, appH_t, appH_f, Kd.isEx, Bool.false_and, partV, Nat.add_zero, Int.toNat_natCast, f10, hag4, hag, hvs, hvl, hva]) | (with_reducible refine condK_dec (fun _ => ?_) (fun _ => ?_)) | (with_reducible refine grd_dec (fun _ => ?_) (fun _ => ?_)) | (with_reducible refine egrd_dec (fun _ => ?_) (fun _ => ?_)))
        refine ⟨ms (g mm2) n + (tr ++ pu k).length, by simp; omega, mm2, tr ++ pu k, rfl, by simp; omega, by omega, hGk, hRG, hTG, hI2 hkk⟩
      · rw [if_neg hl0] at hva
        repeat' (first | (simp (disch := first | omega | (decide +kernel) | (repeat (first | assumption | exact HExt.refl _ | (refine HExt.set ?_ (by first | omega | (simp only [new_nx, set_nx]; omega)) _) | (refine HExt.new ?_ _)))) only [↓RD, RU, accW_t, accW_f, isW, ↓putF_get, ↓putF_none, ↓evF_t, ↓evF_c, ↓evF_f, new_nx, set_nx, new_get, set_get, getD_zero, getD_succ, u_not, pop, lop, aop, wop, resL, resV, tupleV, akV, isVal, isCell, Value.cells, List.map_cons, List.map_nil, Bool.not_true, Bool.not_false, Option.map_some, ↓reduceIte, Nat.reduceEqDiff, Nat.reduceAdd, Int.reduceOfNat, Int.reduceNegSucc, reduceCtorEq, List.getElem?_cons_zero, List.getElem?_cons_succ, List.length_cons, List.length_nil, srcR_c, src_n, src_v, src_s, bnd, lenV, capV, Option.isSome_none, Option.isNone_none, Option.isSome_some, Option.isNone_some, Bool.true_or, Bool.false_or, List.take_succ_cons, List.take_zero, List.drop_succ_cons, List.drop_zero, List.cons_append, List.nil_append, List.drop_nil, List.all_cons, List.all_nil, Bool.true_and, Kd.isRo, List.size_toArray, List.toList_toArray, bldV, Nat.reduceLeDiff, Int.reduceMul, Int.reduceAdd, Int.reduceSub, Int.reduceToNat, maxLen_eq, zeros_one, appS_some, appV_n, appV_v, appH_t, appH_f, Kd.isEx, Bool.false_and, partV, Nat.add_zero, Int.toNat_natCast, f10, hag4, hag, hvs, hvl, hva]) | (with_reducible refine condK_dec (fun _ => ?_) (fun _ => ?_)) | (with_reducible refine grd_dec (fun _ => ?_) (fun _ => ?_)) | (with_reducible refine egrd_dec (fun _ => ?_) (fun _ => ?_)))
        refine ⟨ms (g mm2) n + (tr ++ pu k).length, by simp; omega, mm2, tr ++ pu k, rfl, by simp; omega, by omega, hGk, hRG, hTG, hI2 hkk⟩
    rw [if_neg (by omega)] at hva
    obtain ⟨b1, b2, b3⟩ := hRG.b.row a han (by rw [hls]; omega)
    rw [hls] at b3
    obtain ⟨ej, hej⟩ : ∃ ej, ls[k]? = some ej := ⟨ls[k], by simp [hkl]⟩
    have hbak : (ls.flatMap bakC)[k * 2]? = some (.int .i64 ej.t) ∧ (ls.flatMap bakC)[k * 2 + 1]? = some (.slice ej.q ej.ws.length ej.c) := by
      have := way_get ls k ej hej
      exact this
    have hfl := flat_len (f := bakC) (sz := 2) (fun e => rfl) ls
    have hem : ej ∈ bl.getD a [] := by rw [hls]; exact List.mem_of_getElem? hej
    obtain ⟨hsl8, _⟩ := hRG.q a han ej hem
    obtain ⟨jj, hjj, hjt, _⟩ := hB1 a han ej hem
    have hwl8 : ej.ws.length ≤ 9223372036854775807 := by
      rcases hsl8 with ⟨h, _⟩ | ⟨_, _, _, _, _, _, _, h1, h2, _⟩
      · rw [h]; simp
      · rw [maxLen_eq] at h2; omega
    have hpus : pu (k + 1) = pu k ++ (if (r : Int) ∈ ej.ws then [] else [jj]) := by
      rw [hpu]
      simp only
      rw [List.take_add_one, hej]
      simp only [Option.toList_some, List.filter_append, List.map_append]
      have : ej.t.toNat = jj := by omega
      by_cases hm : (r : Int) ∈ ej.ws <;> simp [hm, this]
    rw [hjt] at hbak
    repeat' (first | (simp (disch := first | omega | (decide +kernel) | (repeat (first | assumption | exact HExt.refl _ | (refine HExt.set ?_ (by first | omega | (simp only [new_nx, set_nx]; omega)) _) | (refine HExt.new ?_ _)))) only [↓RD, RU, accW_t, accW_f, isW, ↓putF_get, ↓putF_none, ↓evF_t, ↓evF_c, ↓evF_f, new_nx, set_nx, new_get, set_get, getD_zero, getD_succ, u_not, pop, lop, aop, wop, resL, resV, tupleV, akV, isVal, isCell, Value.cells, List.map_cons, List.map_nil, Bool.not_true, Bool.not_false, Option.map_some, ↓reduceIte, Nat.reduceEqDiff, Nat.reduceAdd, Int.reduceOfNat, Int.reduceNegSucc, reduceCtorEq, List.getElem?_cons_zero, List.getElem?_cons_succ, List.length_cons, List.length_nil, srcR_c, src_n, src_v, src_s, bnd, lenV, capV, Option.isSome_none, Option.isNone_none, Option.isSome_some, Option.isNone_some, Bool.true_or, Bool.false_or, List.take_succ_cons, List.take_zero, List.drop_succ_cons, List.drop_zero, List.cons_append, List.nil_append, List.drop_nil, List.all_cons, List.all_nil, Bool.true_and, Kd.isRo, List.size_toArray, List.toList_toArray, bldV, Nat.reduceLeDiff, Int.reduceMul, Int.reduceAdd, Int.reduceSub, Int.reduceToNat, maxLen_eq, zeros_one, appS_some, appV_n, appV_v, appH_t, appH_f, Kd.isEx, Bool.false_and, partV, Nat.add_zero, Int.toNat_natCast, f10, hag4, hag, hvs, hvl, hva, b3, hbak, hfl]) | (with_reducible refine condK_dec (fun _ => ?_) (fun _ => ?_)) | (with_reducible refine grd_dec (fun _ => ?_) (fun _ => ?_)) | (with_reducible refine egrd_dec (fun _ => ?_) (fun _ => ?_)))
    refine (rhas_wp hsl8 hwl8 (r : Int)).mono fun v9 G9 ⟨hv9, hG9⟩ => ?_
    subst hv9 hG9
    by_cases hin : (r : Int) ∈ ej.ws
    · rw [decide_eq_true hin]
      rw [if_pos hin, List.append_nil] at hpus
      repeat' (first | (simp (disch := first | omega | (decide +kernel) | (repeat (first | assumption | exact HExt.refl _ | (refine HExt.set ?_ (by first | omega | (simp only [new_nx, set_nx]; omega)) _) | (refine HExt.new ?_ _)))) only [↓RD, RU, accW_t, accW_f, isW, ↓putF_get, ↓putF_none, ↓evF_t, ↓evF_c, ↓evF_f, new_nx, set_nx, new_get, set_get, getD_zero, getD_succ, u_not, pop, lop, aop, wop, resL, resV, tupleV, akV, isVal, isCell, Value.cells, List.map_cons, List.map_nil, Bool.not_true, Bool.not_false, Option.map_some, ↓reduceIte, Nat.reduceEqDiff, Nat.reduceAdd, Int.reduceOfNat, Int.reduceNegSucc, reduceCtorEq, List.getElem?_cons_zero, List.getElem?_cons_succ, List.length_cons, List.length_nil, srcR_c, src_n, src_v, src_s, bnd, lenV, capV, Option.isSome_none, Option.isNone_none, Option.isSome_some, Option.isNone_some, Bool.true_or, Bool.false_or, List.take_succ_cons, List.take_zero, List.drop_succ_cons, List.drop_zero, List.cons_append, List.nil_append, List.drop_nil, List.all_cons, List.all_nil, Bool.true_and, Kd.isRo, List.size_toArray, List.toList_toArray, bldV, Nat.reduceLeDiff, Int.reduceMul, Int.reduceAdd, Int.reduceSub, Int.reduceToNat, maxLen_eq, zeros_one, appS_some, appV_n, appV_v, appH_t, appH_f, Kd.isEx, Bool.false_and, partV, Nat.add_zero, Int.toNat_natCast, f10, hag4, hag]) | (with_reducible refine condK_dec (fun _ => ?_) (fun _ => ?_)) | (with_reducible refine grd_dec (fun _ => ?_) (fun _ => ?_)) | (with_reducible refine egrd_dec (fun _ => ?_) (fun _ => ?_)))
      exact ⟨_, by omega, k + 1, rfl, by omega, rfl, hGn, hGx, by rw [hpus]; exact hTG⟩
    · rw [decide_eq_false hin]
      rw [if_neg hin] at hpus
      have hpk := hpul k
      repeat' (first | (simp (disch := first | omega | (decide +kernel) | (repeat (first | assumption | exact HExt.refl _ | (refine HExt.set ?_ (by first | omega | (simp only [new_nx, set_nx]; omega)) _) | (refine HExt.new ?_ _)))) only [↓RD, RU, accW_t, accW_f, isW, ↓putF_get, ↓putF_none, ↓evF_t, ↓evF_c, ↓evF_f, new_nx, set_nx, new_get, set_get, getD_zero, getD_succ, u_not, pop, lop, aop, wop, resL, resV, tupleV, akV, isVal, isCell, Value.cells, List.map_cons, List.map_nil, Bool.not_true, Bool.not_false, Option.map_some, ↓reduceIte, Nat.reduceEqDiff, Nat.reduceAdd, Int.reduceOfNat, Int.reduceNegSucc, reduceCtorEq, List.getElem?_cons_zero, List.getElem?_cons_succ, List.length_cons, List.length_nil, srcR_c, src_n, src_v, src_s, bnd, lenV, capV, Option.isSome_none, Option.isNone_none, Option.isSome_some, Option.isNone_some, Bool.true_or, Bool.false_or, List.take_succ_cons, List.take_zero, List.drop_succ_cons, List.drop_zero, List.cons_append, List.nil_append, List.drop_nil, List.all_cons, List.all_nil, Bool.true_and, Kd.isRo, List.size_toArray, List.toList_toArray, bldV, Nat.reduceLeDiff, Int.reduceMul, Int.reduceAdd, Int.reduceSub, Int.reduceToNat, maxLen_eq, zeros_one, appS_some, appV_n, appV_v, appH_t, appH_f, Kd.isEx, Bool.false_and, partV, Nat.add_zero, Int.toNat_natCast, f10, hag4, hag, hvs, hvl, hva, b3, hbak, hfl]) | (with_reducible refine condK_dec (fun _ => ?_) (fun _ => ?_)) | (with_reducible refine grd_dec (fun _ => ?_) (fun _ => ?_)) | (with_reducible refine egrd_dec (fun _ => ?_) (fun _ => ?_)))
      have hTG' : TD K0.nx (G9.new (.cells [.int .i64 (jj : Int)] 3 .ex)) (fr4 2) (tr ++ pu k) := hTG.mv (by simp only [new_nx]; omega) fun y o n c e hy => by rw [new_get, if_neg (by omega)]
      refine td_app hTG' (by simp; omega) fun v' K' hT' hn' hk9 hv' => ?_
      simp only [new_nx] at hn' hv'
      repeat' (first | (simp (disch := first | omega | (decide +kernel) | (repeat (first | assumption | exact HExt.refl _ | (refine HExt.set ?_ (by first | omega | (simp only [new_nx, set_nx]; omega)) _) | (refine HExt.new ?_ _)))) only [↓RD, RU, accW_t, accW_f, isW, ↓putF_get, ↓putF_none, ↓evF_t, ↓evF_c, ↓evF_f, new_nx, set_nx, new_get, set_get, getD_zero, getD_succ, u_not, pop, lop, aop, wop, resL, resV, tupleV, akV, isVal, isCell, Value.cells, List.map_cons, List.map_nil, Bool.not_true, Bool.not_false, Option.map_some, ↓reduceIte, Nat.reduceEqDiff, Nat.reduceAdd, Int.reduceOfNat, Int.reduceNegSucc, reduceCtorEq, List.getElem?_cons_zero, List.getElem?_cons_succ, List.length_cons, List.length_nil, srcR_c, src_n, src_v, src_s, bnd, lenV, capV, Option.isSome_none, Option.isNone_none, Option.isSome_some, Option.isNone_some, Bool.true_or, Bool.false_or, List.take_succ_cons, List.take_zero, List.drop_succ_cons, List.drop_zero, List.cons_append, List.nil_append, List.drop_nil, List.all_cons, List.all_nil, Bool.true_and, Kd.isRo, List.size_toArray, List.toList_toArray, bldV, Nat.reduceLeDiff, Int.reduceMul, Int.reduceAdd, Int.reduceSub, Int.reduceToNat, maxLen_eq, zeros_one, appS_some, appV_n, appV_v, appH_t, appH_f, Kd.isEx, Bool.false_and, partV, Nat.add_zero, Int.toNat_natCast, f10, hag4, hag]) | (with_reducible refine condK_dec (fun _ => ?_) (fun _ => ?_)) | (with_reducible refine grd_dec (fun _ => ?_) (fun _ => ?_)) | (with_reducible refine egrd_dec (fun _ => ?_) (fun _ => ?_)))
      refine ⟨_, by omega, k + 1, rfl, by omega, rfl, by omega, fun y h1 => ?_, ?_⟩
      · rw [hk9 y (by first | omega | (simp only [new_nx, set_nx]; omega)) (fun o n c e => by have := (hTG.row e).1; omega), new_get, if_neg (by omega)]
        exact hGx y h1
      · rw [hpus, ← List.append_assoc]; exact hT'
end Can
end Go.Proofs.Ytapcoeecjlkdgaa
