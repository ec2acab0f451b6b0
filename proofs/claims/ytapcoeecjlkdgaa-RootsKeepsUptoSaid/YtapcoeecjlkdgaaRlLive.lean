/- Flow: the document's Live. -/
import Derived.Test.YtapcoeecjlkdgaaRlSpread
namespace Go.Proofs.Ytapcoeecjlkdgaa
namespace Can
open Go Go.RowKit
set_option linter.unusedSimpArgs false
set_option linter.unusedVariables false
set_option maxRecDepth 4000
theorem zeros_nilR (n : Nat) : zeros [.slice none 0 0] n = List.replicate n (.slice none 0 0) := by
  unfold zeros
  apply List.ext_getElem
  · simp
  · intro i h1 h2; simp [Nat.mod_one]
theorem gl_init {α : Type} {K : CH} {lo b n : Nat} {e eo : TypeId} {f : α → List Value} (h : K.ob b = .cells (List.replicate n (.slice none 0 0)) eo .ex) (hl : b < lo) : GL K lo b n e eo f (List.replicate n 0) (List.replicate n []) := by
  have hg : ∀ j, ((List.replicate n ([] : List α)).getD j []) = [] := fun j => by
    rw [List.getD_eq_getElem?_getD, List.getElem?_replicate]; split <;> rfl
  refine ⟨⟨_, h, by simp, fun j hj => ?_⟩, by simp, by simp, fun j hj hn => ?_, fun i j _ _ _ hn => ?_, hl⟩
  · unfold gvV
    rw [hg]; simp [hj]
  · rw [hg] at hn; exact absurd rfl hn
  · rw [hg] at hn; exact absurd rfl hn
theorem own_none {α : Type} {n x : Nat} {nm : List Nat} : ¬ Own nm (List.replicate n ([] : List α)) n x := by
  rintro ⟨j, hj, h, _⟩
  rw [List.getD_eq_getElem?_getD, List.getElem?_replicate] at h
  split at h <;> exact absurd rfl h
/-- What the backs and readers hold, ahead of instruction j. -/
structure LB (F : Fn') (n R j : Nat) (bl : List (List WayE)) (rl : List (List Nat)) : Prop where
  b1 : ∀ t, t < n → ∀ e ∈ bl.getD t [], ∃ i : Nat, i < j ∧ e.t = (i : Int) ∧ ((t : Int), e.ws) ∈ waysF F i
  b2 : ∀ t, t < n → ∀ (i : Nat) ws, i < j → ((t : Int), ws) ∈ waysF F i → ∃ e ∈ bl.getD t [], e.t = (i : Int) ∧ e.ws = ws
  rd : ∀ r, r < R → ∀ x, x ∈ rl.getD r [] ↔ x < j ∧ (r : Int) ∈ readsF (F.ins.getD x default)
  s : ms (fun t => (bl.getD t []).length) n ≤ 3 * j
  l : ∀ r, r < R → (rl.getD r []).length ≤ ms (fun i => 3 + (F.ins.getD i default).l.length) j
theorem ms_mono {f : Nat → Nat} {a b : Nat} (h : a ≤ b) : ms f a ≤ ms f b := by
  induction h with
  | refl => exact Nat.le_refl _
  | step _ ih => exact Nat.le_trans ih (Nat.le_add_right _ _)
theorem ms_add {f : Nat → Nat} {c : Nat} : ∀ n, ms (fun t => f t + c) n = ms f n + n * c
  | 0 => by simp [ms]
  | n + 1 => by
    show ms (fun t => f t + c) n + (f n + c) = ms f n + f n + (n + 1) * c
    rw [ms_add n, Nat.succ_mul]; omega
theorem bit_rep {n W i s : Nat} {mm : List (List Nat)} (h : ∀ w ∈ mm, w = List.replicate W 0) : bitM mm i s = false := by
  unfold bitM
  by_cases hi : i < mm.length
  · have e : mm.getD i [] = mm[i] := by simp [List.getD, List.getElem?_eq_getElem hi]
    rw [e, h _ (List.getElem_mem hi), bitW_rep]
  · have e : mm.getD i [] = [] := by simp [List.getD, List.getElem?_eq_none (Nat.le_of_not_lt hi)]
    rw [e]; simp [bitW]
set_option maxHeartbeats 8000000 in
theorem rlive_wp {H : CH} {F : Fn'} {A : FnA} (hF : FnOk H F A) (hs : soundF F = true) (hnn : F.ins.length ≤ 1048576) (hmu : ms (fun i => 3 + (F.ins.getD i default).l.length) F.ins.length ≤ 8388608) :
    WpF (tblG Try.prog LG GG) 29 [.agg (fnC F A).toArray] H fun v K => HExt H K ∧ ∃ lo bo rows mm, v = .slice (some ⟨bo, 0, none⟩) F.ins.length F.ins.length ∧ H.nx ≤ bo ∧ OR K lo bo F.ins.length ((F.regs.toNat + 63) / 64) rows mm ∧ rows.length = F.ins.length ∧ ∀ i, i < F.ins.length → ∀ s, bitM mm i s = true ↔ Lv F i s := by
  have hreg : 0 < F.ins.length ∧ F.regs ≤ 65536 ∧ 0 ≤ F.regs := by
    have hsd' := hs
    simp only [soundF, headF, Bool.and_eq_true, decide_eq_true_eq] at hsd'
    exact ⟨hsd'.1.2.2.2.2, hsd'.1.2.1, hsd'.1.1⟩
  obtain ⟨W, hW⟩ : ∃ W, (F.regs.toNat + 63) / 64 = W := ⟨_, rfl⟩
  have hW2 : (F.regs + 63) / 64 = (W : Int) := by omega
  obtain ⟨R, hR⟩ : ∃ R : Nat, F.regs = (R : Int) := ⟨F.regs.toNat, by omega⟩
  rw [hW]
  have hW3 : W ≤ 1024 ∧ R ≤ 64 * W ∧ R ≤ 65536 := by omega
  obtain ⟨n, hn⟩ : ∃ n, F.ins.length = n := ⟨_, rfl⟩
  rw [hn] at hnn hmu hreg ⊢
  have hW4 : ((R : Int) + 63) / 64 = (W : Int) := by omega
  have hzn := zeros_nilR n
  have hzr := zeros_nilR R
  have hzw := wordC_zeros W
  refine wpF_rG (by rfl) (by kernel_rfl) ?_; (conv in (rF _ _).body => reduce); (conv in (rF _ _).res => reduce)
  repeat' (first | (simp (disch := first | omega | (decide +kernel) | (repeat (first | assumption | exact HExt.refl _ | (refine HExt.set ?_ (by first | omega | (simp only [new_nx, set_nx]; omega)) _) | (refine HExt.new ?_ _)))) only [↓RD, RU, accW_t, accW_f, isW, ↓putF_get, ↓putF_none, ↓evF_t, ↓evF_c, ↓evF_f, new_nx, set_nx, new_get, set_get, getD_zero, getD_succ, u_not, pop, lop, aop, wop, resL, resV, tupleV, akV, isVal, isCell, Value.cells, List.map_cons, List.map_nil, Bool.not_true, Bool.not_false, Option.map_some, ↓reduceIte, Nat.reduceEqDiff, Nat.reduceAdd, Int.reduceOfNat, Int.reduceNegSucc, reduceCtorEq, List.getElem?_cons_zero, List.getElem?_cons_succ, List.length_cons, List.length_nil, srcR_c, src_n, src_v, src_s, bnd, lenV, capV, Option.isSome_none, Option.isNone_none, Option.isSome_some, Option.isNone_some, Bool.true_or, Bool.false_or, List.take_succ_cons, List.take_zero, List.drop_succ_cons, List.drop_zero, List.cons_append, List.nil_append, List.drop_nil, List.all_cons, List.all_nil, Bool.true_and, Kd.isRo, List.size_toArray, List.toList_toArray, bldV, Nat.reduceLeDiff, Int.reduceMul, Int.reduceAdd, Int.reduceSub, Int.reduceToNat, maxLen_eq, zeros_one, appS_some, appV_n, appV_v, appH_t, appH_f, Kd.isEx, Bool.false_and, partV, Nat.add_zero, Int.toNat_natCast, fnC, hn, hR, hW4, hzn, hzr]) | (with_reducible refine condK_dec (fun _ => ?_) (fun _ => ?_)) | (with_reducible refine grd_dec (fun _ => ?_) (fun _ => ?_)) | (with_reducible refine egrd_dec (fun _ => ?_) (fun _ => ?_)))
  obtain ⟨Kz, hKz⟩ : ∃ Kz, (((H.new (.cells [.string F.name, .int .i64 F.params, .int .i64 (R : Int), .int .i64 F.frees, .bool F.gen, .int .i64 F.bound, .slice A.qn F.names.length A.cn, .slice A.qc F.consts.length A.cc, .slice A.qi n A.ci, .slice A.qr F.rgs.length A.cr] 27 .ex)).new (.cells (List.replicate n (.slice none 0 0)) 36 .ex)).new (.cells (List.replicate n (.slice none 0 0)) 74 .ex)).new (.cells (List.replicate R (.slice none 0 0)) 39 .ex) = Kz := ⟨_, rfl⟩
  have hKzn : Kz.nx = H.nx + 4 := by rw [← hKz]; rfl
  have hEz : HExt H Kz := by rw [← hKz]; (repeat (first | assumption | exact HExt.refl _ | (refine HExt.set ?_ (by first | omega | (simp only [new_nx, set_nx]; omega)) _) | (refine HExt.new ?_ _)))
  have hbz : Kz.ob H.nx = .cells (fnC F A) 27 .ex := by
    rw [← hKz]; simp only [new_get, new_nx]; rw [if_neg (by omega), if_neg (by omega), if_neg (by omega)]; simp [fnC, hn, hR]
  have hRz : RS Kz (H.nx + 4) (H.nx + 1) (H.nx + 2) (H.nx + 3) n R W [] [] (List.replicate n 0) (List.replicate n []) (List.replicate R 0) (List.replicate R []) := by
    refine ⟨⟨?_, Nat.zero_le _, rfl, List.nodup_nil, fun x hx => (by cases hx), fun i hi => absurd hi (Nat.not_lt_zero _), fun i hi => absurd hi (Nat.not_lt_zero _), fun i hi => absurd hi (Nat.not_lt_zero _), by omega⟩, gl_init ?_ (by omega), gl_init ?_ (by omega), by omega, by omega, fun t ht e he => ?_⟩
    · have e : outC W n [] = List.replicate n (.slice none 0 0) := by simp [outC]
      rw [← hKz, e]; repeat' (first | (simp (disch := first | omega | (decide +kernel) | (repeat (first | assumption | exact HExt.refl _ | (refine HExt.set ?_ (by first | omega | (simp only [new_nx, set_nx]; omega)) _) | (refine HExt.new ?_ _)))) only [↓RD, RU, accW_t, accW_f, isW, ↓putF_get, ↓putF_none, ↓evF_t, ↓evF_c, ↓evF_f, new_nx, set_nx, new_get, set_get, getD_zero, getD_succ, u_not, pop, lop, aop, wop, resL, resV, tupleV, akV, isVal, isCell, Value.cells, List.map_cons, List.map_nil, Bool.not_true, Bool.not_false, Option.map_some, ↓reduceIte, Nat.reduceEqDiff, Nat.reduceAdd, Int.reduceOfNat, Int.reduceNegSucc, reduceCtorEq, List.getElem?_cons_zero, List.getElem?_cons_succ, List.length_cons, List.length_nil, srcR_c, src_n, src_v, src_s, bnd, lenV, capV, Option.isSome_none, Option.isNone_none, Option.isSome_some, Option.isNone_some, Bool.true_or, Bool.false_or, List.take_succ_cons, List.take_zero, List.drop_succ_cons, List.drop_zero, List.cons_append, List.nil_append, List.drop_nil, List.all_cons, List.all_nil, Bool.true_and, Kd.isRo, List.size_toArray, List.toList_toArray, bldV, Nat.reduceLeDiff, Int.reduceMul, Int.reduceAdd, Int.reduceSub, Int.reduceToNat, maxLen_eq, zeros_one, appS_some, appV_n, appV_v, appH_t, appH_f, Kd.isEx, Bool.false_and, partV, Nat.add_zero, Int.toNat_natCast]) | (with_reducible refine condK_dec (fun _ => ?_) (fun _ => ?_)) | (with_reducible refine grd_dec (fun _ => ?_) (fun _ => ?_)) | (with_reducible refine egrd_dec (fun _ => ?_) (fun _ => ?_)))
    · rw [← hKz]; repeat' (first | (simp (disch := first | omega | (decide +kernel) | (repeat (first | assumption | exact HExt.refl _ | (refine HExt.set ?_ (by first | omega | (simp only [new_nx, set_nx]; omega)) _) | (refine HExt.new ?_ _)))) only [↓RD, RU, accW_t, accW_f, isW, ↓putF_get, ↓putF_none, ↓evF_t, ↓evF_c, ↓evF_f, new_nx, set_nx, new_get, set_get, getD_zero, getD_succ, u_not, pop, lop, aop, wop, resL, resV, tupleV, akV, isVal, isCell, Value.cells, List.map_cons, List.map_nil, Bool.not_true, Bool.not_false, Option.map_some, ↓reduceIte, Nat.reduceEqDiff, Nat.reduceAdd, Int.reduceOfNat, Int.reduceNegSucc, reduceCtorEq, List.getElem?_cons_zero, List.getElem?_cons_succ, List.length_cons, List.length_nil, srcR_c, src_n, src_v, src_s, bnd, lenV, capV, Option.isSome_none, Option.isNone_none, Option.isSome_some, Option.isNone_some, Bool.true_or, Bool.false_or, List.take_succ_cons, List.take_zero, List.drop_succ_cons, List.drop_zero, List.cons_append, List.nil_append, List.drop_nil, List.all_cons, List.all_nil, Bool.true_and, Kd.isRo, List.size_toArray, List.toList_toArray, bldV, Nat.reduceLeDiff, Int.reduceMul, Int.reduceAdd, Int.reduceSub, Int.reduceToNat, maxLen_eq, zeros_one, appS_some, appV_n, appV_v, appH_t, appH_f, Kd.isEx, Bool.false_and, partV, Nat.add_zero, Int.toNat_natCast]) | (with_reducible refine condK_dec (fun _ => ?_) (fun _ => ?_)) | (with_reducible refine grd_dec (fun _ => ?_) (fun _ => ?_)) | (with_reducible refine egrd_dec (fun _ => ?_) (fun _ => ?_)))
    · rw [← hKz]; repeat' (first | (simp (disch := first | omega | (decide +kernel) | (repeat (first | assumption | exact HExt.refl _ | (refine HExt.set ?_ (by first | omega | (simp only [new_nx, set_nx]; omega)) _) | (refine HExt.new ?_ _)))) only [↓RD, RU, accW_t, accW_f, isW, ↓putF_get, ↓putF_none, ↓evF_t, ↓evF_c, ↓evF_f, new_nx, set_nx, new_get, set_get, getD_zero, getD_succ, u_not, pop, lop, aop, wop, resL, resV, tupleV, akV, isVal, isCell, Value.cells, List.map_cons, List.map_nil, Bool.not_true, Bool.not_false, Option.map_some, ↓reduceIte, Nat.reduceEqDiff, Nat.reduceAdd, Int.reduceOfNat, Int.reduceNegSucc, reduceCtorEq, List.getElem?_cons_zero, List.getElem?_cons_succ, List.length_cons, List.length_nil, srcR_c, src_n, src_v, src_s, bnd, lenV, capV, Option.isSome_none, Option.isNone_none, Option.isSome_some, Option.isNone_some, Bool.true_or, Bool.false_or, List.take_succ_cons, List.take_zero, List.drop_succ_cons, List.drop_zero, List.cons_append, List.nil_append, List.drop_nil, List.all_cons, List.all_nil, Bool.true_and, Kd.isRo, List.size_toArray, List.toList_toArray, bldV, Nat.reduceLeDiff, Int.reduceMul, Int.reduceAdd, Int.reduceSub, Int.reduceToNat, maxLen_eq, zeros_one, appS_some, appV_n, appV_v, appH_t, appH_f, Kd.isEx, Bool.false_and, partV, Nat.add_zero, Int.toNat_natCast]) | (with_reducible refine condK_dec (fun _ => ?_) (fun _ => ?_)) | (with_reducible refine grd_dec (fun _ => ?_) (fun _ => ?_)) | (with_reducible refine egrd_dec (fun _ => ?_) (fun _ => ?_)))
    · rw [List.getD_eq_getElem?_getD, List.getElem?_replicate] at he
      split at he <;> cases he
  have hLz : LB F n R 0 (List.replicate n []) (List.replicate R []) := by
    have hg : ∀ {α : Type} (m j : Nat), ((List.replicate m ([] : List α)).getD j []) = [] := fun m j => by
      rw [List.getD_eq_getElem?_getD, List.getElem?_replicate]; split <;> rfl
    refine ⟨fun t ht e he => ?_, fun t ht i ws hi => absurd hi (Nat.not_lt_zero _), fun r hr x => ?_, ?_, fun r hr => ?_⟩
    · rw [hg] at he; cases he
    · rw [hg]; simp
    · rw [ms_congr (g := fun _ => 0) fun t ht => by rw [hg]; rfl]
      have : ∀ m, ms (fun _ => 0) m = 0 := fun m => by induction m with
        | zero => rfl
        | succ m ih => show ms (fun _ => 0) m + 0 = 0; rw [ih]
      rw [this]; exact Nat.zero_le _
    · rw [hg]; exact Nat.zero_le _
  have hbK : ∀ K : CH, K.ob H.nx = .cells (fnC F A) 27 .ex → K.ob H.nx = .cells [.string F.name, .int .i64 F.params, .int .i64 (R : Int), .int .i64 F.frees, .bool F.gen, .int .i64 F.bound, .slice A.qn F.names.length A.cn, .slice A.qc F.consts.length A.cc, .slice A.qi n A.ci, .slice A.qr F.rgs.length A.cr] 27 .ex := fun K h => by
    rw [h]; simp [fnC, hn, hR]
  rw [hKz]
  refine loop_w (fun m fr K => ∃ (j : Nat) (rows : List Nat) (mm : List (List Nat)) (nb : List Nat) (bl : List (List WayE)) (nr : List Nat) (rl : List (List Nat)), m = n - j ∧ j ≤ n ∧ fr 7 = .int .i64 (j : Int) ∧ HExt H K ∧ K.ob H.nx = .cells (fnC F A) 27 .ex ∧ RS K (H.nx + 4) (H.nx + 1) (H.nx + 2) (H.nx + 3) n R W rows mm nb bl nr rl ∧ rows.length = j ∧ (∀ w ∈ mm, w = List.replicate W 0) ∧ LB F n R j bl rl) (n := n)
    ⟨0, [], [], _, _, _, _, rfl, Nat.zero_le _, by (repeat' (first | (simp (disch := first | omega | (decide +kernel) | (repeat (first | assumption | exact HExt.refl _ | (refine HExt.set ?_ (by first | omega | (simp only [new_nx, set_nx]; omega)) _) | (refine HExt.new ?_ _)))) only [↓RD, RU, accW_t, accW_f, isW, ↓putF_get, ↓putF_none, ↓evF_t, ↓evF_c, ↓evF_f, new_nx, set_nx, new_get, set_get, getD_zero, getD_succ, u_not, pop, lop, aop, wop, resL, resV, tupleV, akV, isVal, isCell, Value.cells, List.map_cons, List.map_nil, Bool.not_true, Bool.not_false, Option.map_some, ↓reduceIte, Nat.reduceEqDiff, Nat.reduceAdd, Int.reduceOfNat, Int.reduceNegSucc, reduceCtorEq, List.getElem?_cons_zero, List.getElem?_cons_succ, List.length_cons, List.length_nil, srcR_c, src_n, src_v, src_s, bnd, lenV, capV, Option.isSome_none, Option.isNone_none, Option.isSome_some, Option.isNone_some, Bool.true_or, Bool.false_or, List.take_succ_cons, List.take_zero, List.drop_succ_cons, List.drop_zero, List.cons_append, List.nil_append, List.drop_nil, List.all_cons, List.all_nil, Bool.true_and, Kd.isRo, List.size_toArray, List.toList_toArray, bldV, Nat.reduceLeDiff, Int.reduceMul, Int.reduceAdd, Int.reduceSub, Int.reduceToNat, maxLen_eq, zeros_one, appS_some, appV_n, appV_v, appH_t, appH_f, Kd.isEx, Bool.false_and, partV, Nat.add_zero, Int.toNat_natCast]) | (with_reducible refine condK_dec (fun _ => ?_) (fun _ => ?_)) | (with_reducible refine grd_dec (fun _ => ?_) (fun _ => ?_)) | (with_reducible refine egrd_dec (fun _ => ?_) (fun _ => ?_)))); all_goals rfl, hEz, hbz, hRz, rfl, fun w hw => (by cases hw), hLz⟩ ?_
  rintro m fr K ⟨j, rows, mm, nb, bl, nr, rl, rfl, hj, f7, hE, hb, hRS, hrl, hmm, hLB⟩ hag
  have hb' := hbK K hb
  have hlo := hRS.nx
  by_cases hjn : j < n
  case neg =>
    have hjn' : j = n := by omega
    subst hjn'
    repeat' (first | (simp (disch := first | omega | (decide +kernel) | (repeat (first | assumption | exact HExt.refl _ | (refine HExt.set ?_ (by first | omega | (simp only [new_nx, set_nx]; omega)) _) | (refine HExt.new ?_ _)))) only [↓RD, RU, accW_t, accW_f, isW, ↓putF_get, ↓putF_none, ↓evF_t, ↓evF_c, ↓evF_f, new_nx, set_nx, new_get, set_get, getD_zero, getD_succ, u_not, pop, lop, aop, wop, resL, resV, tupleV, akV, isVal, isCell, Value.cells, List.map_cons, List.map_nil, Bool.not_true, Bool.not_false, Option.map_some, ↓reduceIte, Nat.reduceEqDiff, Nat.reduceAdd, Int.reduceOfNat, Int.reduceNegSucc, reduceCtorEq, List.getElem?_cons_zero, List.getElem?_cons_succ, List.length_cons, List.length_nil, srcR_c, src_n, src_v, src_s, bnd, lenV, capV, Option.isSome_none, Option.isNone_none, Option.isSome_some, Option.isNone_some, Bool.true_or, Bool.false_or, List.take_succ_cons, List.take_zero, List.drop_succ_cons, List.drop_zero, List.cons_append, List.nil_append, List.drop_nil, List.all_cons, List.all_nil, Bool.true_and, Kd.isRo, List.size_toArray, List.toList_toArray, bldV, Nat.reduceLeDiff, Int.reduceMul, Int.reduceAdd, Int.reduceSub, Int.reduceToNat, maxLen_eq, zeros_one, appS_some, appV_n, appV_v, appH_t, appH_f, Kd.isEx, Bool.false_and, partV, Nat.add_zero, Int.toNat_natCast, f7, hag, hb']) | (with_reducible refine condK_dec (fun _ => ?_) (fun _ => ?_)) | (with_reducible refine grd_dec (fun _ => ?_) (fun _ => ?_)) | (with_reducible refine egrd_dec (fun _ => ?_) (fun _ => ?_)))
    refine loop_w (fun m fr G => ∃ (r : Nat) (mm' : List (List Nat)), m = R - r ∧ r ≤ R ∧ fr 12 = .int .i64 (r : Int) ∧ HExt H G ∧ G.ob H.nx = .cells (fnC F A) 27 .ex ∧ RS G (H.nx + 4) (H.nx + 1) (H.nx + 2) (H.nx + 3) j R W rows mm' nb bl nr rl ∧ ∀ i, i < j → ∀ s, bitM mm' i s = true ↔ s < r ∧ Lv F i s) (n := R)
      ⟨0, mm, rfl, Nat.zero_le _, by (repeat' (first | (simp (disch := first | omega | (decide +kernel) | (repeat (first | assumption | exact HExt.refl _ | (refine HExt.set ?_ (by first | omega | (simp only [new_nx, set_nx]; omega)) _) | (refine HExt.new ?_ _)))) only [↓RD, RU, accW_t, accW_f, isW, ↓putF_get, ↓putF_none, ↓evF_t, ↓evF_c, ↓evF_f, new_nx, set_nx, new_get, set_get, getD_zero, getD_succ, u_not, pop, lop, aop, wop, resL, resV, tupleV, akV, isVal, isCell, Value.cells, List.map_cons, List.map_nil, Bool.not_true, Bool.not_false, Option.map_some, ↓reduceIte, Nat.reduceEqDiff, Nat.reduceAdd, Int.reduceOfNat, Int.reduceNegSucc, reduceCtorEq, List.getElem?_cons_zero, List.getElem?_cons_succ, List.length_cons, List.length_nil, srcR_c, src_n, src_v, src_s, bnd, lenV, capV, Option.isSome_none, Option.isNone_none, Option.isSome_some, Option.isNone_some, Bool.true_or, Bool.false_or, List.take_succ_cons, List.take_zero, List.drop_succ_cons, List.drop_zero, List.cons_append, List.nil_append, List.drop_nil, List.all_cons, List.all_nil, Bool.true_and, Kd.isRo, List.size_toArray, List.toList_toArray, bldV, Nat.reduceLeDiff, Int.reduceMul, Int.reduceAdd, Int.reduceSub, Int.reduceToNat, maxLen_eq, zeros_one, appS_some, appV_n, appV_v, appH_t, appH_f, Kd.isEx, Bool.false_and, partV, Nat.add_zero, Int.toNat_natCast]) | (with_reducible refine condK_dec (fun _ => ?_) (fun _ => ?_)) | (with_reducible refine grd_dec (fun _ => ?_) (fun _ => ?_)) | (with_reducible refine egrd_dec (fun _ => ?_) (fun _ => ?_)))); all_goals rfl, hE, hb, hRS, fun i hi s => by rw [bit_rep (n := j) hmm]; simp⟩ ?_
    rintro m fr2 G ⟨r, mm', rfl, hr, f12, hEG, hbG, hRG, hbits⟩ hag2
    have hbG' := hbK G hbG
    by_cases hrR : r < R
    case neg =>
      repeat' (first | (simp (disch := first | omega | (decide +kernel) | (repeat (first | assumption | exact HExt.refl _ | (refine HExt.set ?_ (by first | omega | (simp only [new_nx, set_nx]; omega)) _) | (refine HExt.new ?_ _)))) only [↓RD, RU, accW_t, accW_f, isW, ↓putF_get, ↓putF_none, ↓evF_t, ↓evF_c, ↓evF_f, new_nx, set_nx, new_get, set_get, getD_zero, getD_succ, u_not, pop, lop, aop, wop, resL, resV, tupleV, akV, isVal, isCell, Value.cells, List.map_cons, List.map_nil, Bool.not_true, Bool.not_false, Option.map_some, ↓reduceIte, Nat.reduceEqDiff, Nat.reduceAdd, Int.reduceOfNat, Int.reduceNegSucc, reduceCtorEq, List.getElem?_cons_zero, List.getElem?_cons_succ, List.length_cons, List.length_nil, srcR_c, src_n, src_v, src_s, bnd, lenV, capV, Option.isSome_none, Option.isNone_none, Option.isSome_some, Option.isNone_some, Bool.true_or, Bool.false_or, List.take_succ_cons, List.take_zero, List.drop_succ_cons, List.drop_zero, List.cons_append, List.nil_append, List.drop_nil, List.all_cons, List.all_nil, Bool.true_and, Kd.isRo, List.size_toArray, List.toList_toArray, bldV, Nat.reduceLeDiff, Int.reduceMul, Int.reduceAdd, Int.reduceSub, Int.reduceToNat, maxLen_eq, zeros_one, appS_some, appV_n, appV_v, appH_t, appH_f, Kd.isEx, Bool.false_and, partV, Nat.add_zero, Int.toNat_natCast, f12, hag2, hag, hbG']) | (with_reducible refine condK_dec (fun _ => ?_) (fun _ => ?_)) | (with_reducible refine grd_dec (fun _ => ?_) (fun _ => ?_)) | (with_reducible refine egrd_dec (fun _ => ?_) (fun _ => ?_)))
      refine ⟨hEG, H.nx + 4, H.nx + 1, rows, mm', rfl, by omega, hRG.o, hrl, fun i hi s => ?_⟩
      rw [hbits i hi s]
      refine ⟨fun h => h.2, fun h => ⟨?_, h⟩⟩
      have : ∀ {a b : Nat}, Lv F a b → (b : Int) < F.regs := by
        intro a b h
        induction h with
        | read hj hr => exact (reads_in hs hj hr).2
        | step hp h hw ih => exact ih
      have := this h
      omega
    obtain ⟨vs, hvs, hvl, hvj⟩ := hRG.r.vs
    have hvr := hvj r hrR
    have hml : mm'.length = j := by rw [← hRG.o.len]; exact hrl
    have hsS : ms (fun t => (bl.getD t []).length + 1) j ≤ 8388608 := by
      rw [ms_add]; have := hLB.s; omega
    have hzz : ∀ i, bitM mm' i r = false := fun i => by
      by_cases hi : i < j
      · rw [Bool.eq_false_iff]; intro h; have := (hbits i hi r).1 h; omega
      · exact bitM_out (by omega)
    repeat' (first | (simp (disch := first | omega | (decide +kernel) | (repeat (first | assumption | exact HExt.refl _ | (refine HExt.set ?_ (by first | omega | (simp only [new_nx, set_nx]; omega)) _) | (refine HExt.new ?_ _)))) only [↓RD, RU, accW_t, accW_f, isW, ↓putF_get, ↓putF_none, ↓evF_t, ↓evF_c, ↓evF_f, new_nx, set_nx, new_get, set_get, getD_zero, getD_succ, u_not, pop, lop, aop, wop, resL, resV, tupleV, akV, isVal, isCell, Value.cells, List.map_cons, List.map_nil, Bool.not_true, Bool.not_false, Option.map_some, ↓reduceIte, Nat.reduceEqDiff, Nat.reduceAdd, Int.reduceOfNat, Int.reduceNegSucc, reduceCtorEq, List.getElem?_cons_zero, List.getElem?_cons_succ, List.length_cons, List.length_nil, srcR_c, src_n, src_v, src_s, bnd, lenV, capV, Option.isSome_none, Option.isNone_none, Option.isSome_some, Option.isNone_some, Bool.true_or, Bool.false_or, List.take_succ_cons, List.take_zero, List.drop_succ_cons, List.drop_zero, List.cons_append, List.nil_append, List.drop_nil, List.all_cons, List.all_nil, Bool.true_and, Kd.isRo, List.size_toArray, List.toList_toArray, bldV, Nat.reduceLeDiff, Int.reduceMul, Int.reduceAdd, Int.reduceSub, Int.reduceToNat, maxLen_eq, zeros_one, appS_some, appV_n, appV_v, appH_t, appH_f, Kd.isEx, Bool.false_and, partV, Nat.add_zero, Int.toNat_natCast, f12, hag2, hag, hbG', hvs, hvl, hvr]) | (with_reducible refine condK_dec (fun _ => ?_) (fun _ => ?_)) | (with_reducible refine grd_dec (fun _ => ?_) (fun _ => ?_)) | (with_reducible refine egrd_dec (fun _ => ?_) (fun _ => ?_)))
    refine (spread_wp hRG hs hn hnn hrl hrR (by omega) hW3.2.2 hzz (fun t ht e he => by obtain ⟨i, h1, h2⟩ := hLB.b1 t ht e he; exact ⟨i, h1, h2⟩) (fun t ht i ws hw => hLB.b2 t ht i ws (by
      unfold waysF at hw
      split at hw
      · omega
      · cases hw) hw) (hLB.rd r hrR) hsS (by have := hLB.l r hrR; omega)).mono fun v2 G2 ⟨hn2, hk2, mm2, hR2, hb1, hb2⟩ => ?_
    have hnotin : ∀ y, y < H.nx + 4 → y ∉ rows := fun y hy hm => by have := hRG.o.los y hm; omega
    have hG4 := hRG.nx
    repeat' (first | (simp (disch := first | omega | (decide +kernel) | (repeat (first | assumption | exact HExt.refl _ | (refine HExt.set ?_ (by first | omega | (simp only [new_nx, set_nx]; omega)) _) | (refine HExt.new ?_ _)))) only [↓RD, RU, accW_t, accW_f, isW, ↓putF_get, ↓putF_none, ↓evF_t, ↓evF_c, ↓evF_f, new_nx, set_nx, new_get, set_get, getD_zero, getD_succ, u_not, pop, lop, aop, wop, resL, resV, tupleV, akV, isVal, isCell, Value.cells, List.map_cons, List.map_nil, Bool.not_true, Bool.not_false, Option.map_some, ↓reduceIte, Nat.reduceEqDiff, Nat.reduceAdd, Int.reduceOfNat, Int.reduceNegSucc, reduceCtorEq, List.getElem?_cons_zero, List.getElem?_cons_succ, List.length_cons, List.length_nil, srcR_c, src_n, src_v, src_s, bnd, lenV, capV, Option.isSome_none, Option.isNone_none, Option.isSome_some, Option.isNone_some, Bool.true_or, Bool.false_or, List.take_succ_cons, List.take_zero, List.drop_succ_cons, List.drop_zero, List.cons_append, List.nil_append, List.drop_nil, List.all_cons, List.all_nil, Bool.true_and, Kd.isRo, List.size_toArray, List.toList_toArray, bldV, Nat.reduceLeDiff, Int.reduceMul, Int.reduceAdd, Int.reduceSub, Int.reduceToNat, maxLen_eq, zeros_one, appS_some, appV_n, appV_v, appH_t, appH_f, Kd.isEx, Bool.false_and, partV, Nat.add_zero, Int.toNat_natCast, f12, hag2, hag]) | (with_reducible refine condK_dec (fun _ => ?_) (fun _ => ?_)) | (with_reducible refine grd_dec (fun _ => ?_) (fun _ => ?_)) | (with_reducible refine egrd_dec (fun _ => ?_) (fun _ => ?_)))
    refine ⟨_, by omega, r + 1, mm2, rfl, by omega, rfl, ⟨by have := hEG.nx; omega, fun y hy => (hk2 y (by omega) (hnotin y (by omega))).trans (hEG.ob y hy)⟩, (hk2 _ (by omega) (hnotin _ (by omega))).trans hbG, hR2, fun i hi s => ?_⟩
    by_cases e : s = r
    · subst e
      rw [hb2 i hi]
      exact ⟨fun h => ⟨by omega, h⟩, fun h => h.2⟩
    · rw [hb1 i s e, hbits i hi s]
      exact ⟨fun h => ⟨by omega, h.2⟩, fun h => ⟨by omega, h.2⟩⟩
  have hout := hRS.o.out
  have houl := outC_len (W := W) (n := n) (rows := rows) (by omega)
  have hpush := fun b => outC_push (W := W) (n := n) (j := j) (b := b) hrl hjn
  repeat' (first | (simp (disch := first | omega | (decide +kernel) | (repeat (first | assumption | exact HExt.refl _ | (refine HExt.set ?_ (by first | omega | (simp only [new_nx, set_nx]; omega)) _) | (refine HExt.new ?_ _)))) only [↓RD, RU, accW_t, accW_f, isW, ↓putF_get, ↓putF_none, ↓evF_t, ↓evF_c, ↓evF_f, new_nx, set_nx, new_get, set_get, getD_zero, getD_succ, u_not, pop, lop, aop, wop, resL, resV, tupleV, akV, isVal, isCell, Value.cells, List.map_cons, List.map_nil, Bool.not_true, Bool.not_false, Option.map_some, ↓reduceIte, Nat.reduceEqDiff, Nat.reduceAdd, Int.reduceOfNat, Int.reduceNegSucc, reduceCtorEq, List.getElem?_cons_zero, List.getElem?_cons_succ, List.length_cons, List.length_nil, srcR_c, src_n, src_v, src_s, bnd, lenV, capV, Option.isSome_none, Option.isNone_none, Option.isSome_some, Option.isNone_some, Bool.true_or, Bool.false_or, List.take_succ_cons, List.take_zero, List.drop_succ_cons, List.drop_zero, List.cons_append, List.nil_append, List.drop_nil, List.all_cons, List.all_nil, Bool.true_and, Kd.isRo, List.size_toArray, List.toList_toArray, bldV, Nat.reduceLeDiff, Int.reduceMul, Int.reduceAdd, Int.reduceSub, Int.reduceToNat, maxLen_eq, zeros_one, appS_some, appV_n, appV_v, appH_t, appH_f, Kd.isEx, Bool.false_and, partV, Nat.add_zero, Int.toNat_natCast, f7, hag, hb', hout, houl, hzw, ↓hpush]) | (with_reducible refine condK_dec (fun _ => ?_) (fun _ => ?_)) | (with_reducible refine grd_dec (fun _ => ?_) (fun _ => ?_)) | (with_reducible refine egrd_dec (fun _ => ?_) (fun _ => ?_)))
  have hP0 := hRS.push (by omega) (ws := List.replicate W 0) (by simp) (W64.rep _)
  obtain ⟨Kp, hKp⟩ : ∃ Kp, (K.new (.cells (wordC (List.replicate W 0)) 40 .ex)).set (H.nx + 1) (.cells (outC W n (rows ++ [K.nx])) 36 .ex) = Kp := ⟨_, rfl⟩
  rw [hKp] at hP0 ⊢
  obtain ⟨rows2, hrows2⟩ : ∃ r, rows ++ [K.nx] = r := ⟨_, rfl⟩
  obtain ⟨mm2, hmm2⟩ : ∃ r, mm ++ [List.replicate W 0] = r := ⟨_, rfl⟩
  rw [hrows2, hmm2] at hP0
  have hrl2 : rows2.length = j + 1 := by rw [← hrows2]; simp [hrl]
  have hmmz : ∀ w ∈ mm2, w = List.replicate W 0 := fun w hw => by
    rw [← hmm2] at hw
    rcases List.mem_append.1 hw with h | h
    · exact hmm w h
    · simpa using h
  have hEp : HExt H Kp := by rw [← hKp]; exact ⟨by simp only [set_nx, new_nx]; have := hE.nx; omega, fun y hy => by rw [set_get, if_neg (by omega), new_get, if_neg (by omega)]; exact hE.ob y hy⟩
  have hbp : Kp.ob H.nx = .cells (fnC F A) 27 .ex := by rw [← hKp, set_get, if_neg (by omega), new_get, if_neg (by omega)]; exact hb
  have hbp' := hbK Kp hbp
  have hlop := hP0.nx
  repeat' (first | (simp (disch := first | omega | (decide +kernel) | (repeat (first | assumption | exact HExt.refl _ | (refine HExt.set ?_ (by first | omega | (simp only [new_nx, set_nx]; omega)) _) | (refine HExt.new ?_ _)))) only [↓RD, RU, accW_t, accW_f, isW, ↓putF_get, ↓putF_none, ↓evF_t, ↓evF_c, ↓evF_f, new_nx, set_nx, new_get, set_get, getD_zero, getD_succ, u_not, pop, lop, aop, wop, resL, resV, tupleV, akV, isVal, isCell, Value.cells, List.map_cons, List.map_nil, Bool.not_true, Bool.not_false, Option.map_some, ↓reduceIte, Nat.reduceEqDiff, Nat.reduceAdd, Int.reduceOfNat, Int.reduceNegSucc, reduceCtorEq, List.getElem?_cons_zero, List.getElem?_cons_succ, List.length_cons, List.length_nil, srcR_c, src_n, src_v, src_s, bnd, lenV, capV, Option.isSome_none, Option.isNone_none, Option.isSome_some, Option.isNone_some, Bool.true_or, Bool.false_or, List.take_succ_cons, List.take_zero, List.drop_succ_cons, List.drop_zero, List.cons_append, List.nil_append, List.drop_nil, List.all_cons, List.all_nil, Bool.true_and, Kd.isRo, List.size_toArray, List.toList_toArray, bldV, Nat.reduceLeDiff, Int.reduceMul, Int.reduceAdd, Int.reduceSub, Int.reduceToNat, maxLen_eq, zeros_one, appS_some, appV_n, appV_v, appH_t, appH_f, Kd.isEx, Bool.false_and, partV, Nat.add_zero, Int.toNat_natCast, f7, hag, hbp']) | (with_reducible refine condK_dec (fun _ => ?_) (fun _ => ?_)) | (with_reducible refine grd_dec (fun _ => ?_) (fun _ => ?_)) | (with_reducible refine egrd_dec (fun _ => ?_) (fun _ => ?_)))
  have hwy := rways_wp (hF.good hEp) (a := (j : Int)) (by unfold i64r; omega)
  simp only [fnC, hn, hR] at hwy
  refine hwy.mono fun v6 K6 ⟨hx6, es, hg6, hes, hat6⟩ => ?_
  clear hwy
  have hel : es.length = (waysF F j).length := by rw [← hes, List.length_map]
  have hfew := ways_few (F := F) (a := (j : Int))
  obtain ⟨q6, c6, hv6⟩ : ∃ q6 c6, v6 = .slice q6 es.length c6 := by
    rcases hg6 with ⟨h, h'⟩ | ⟨b, kd, h, _⟩
    · rw [h]; exact ⟨none, 0, h'⟩
    · exact ⟨_, _, h⟩
  subst hv6
  have hn6 := hx6.nx
  have hR6 := hP0.ext hx6
  have hE6 := hEp.trans hx6
  have hb6 := (hx6.ob H.nx (by omega)).trans hbp
  repeat' (first | (simp (disch := first | omega | (decide +kernel) | (repeat (first | assumption | exact HExt.refl _ | (refine HExt.set ?_ (by first | omega | (simp only [new_nx, set_nx]; omega)) _) | (refine HExt.new ?_ _)))) only [↓RD, RU, accW_t, accW_f, isW, ↓putF_get, ↓putF_none, ↓evF_t, ↓evF_c, ↓evF_f, new_nx, set_nx, new_get, set_get, getD_zero, getD_succ, u_not, pop, lop, aop, wop, resL, resV, tupleV, akV, isVal, isCell, Value.cells, List.map_cons, List.map_nil, Bool.not_true, Bool.not_false, Option.map_some, ↓reduceIte, Nat.reduceEqDiff, Nat.reduceAdd, Int.reduceOfNat, Int.reduceNegSucc, reduceCtorEq, List.getElem?_cons_zero, List.getElem?_cons_succ, List.length_cons, List.length_nil, srcR_c, src_n, src_v, src_s, bnd, lenV, capV, Option.isSome_none, Option.isNone_none, Option.isSome_some, Option.isNone_some, Bool.true_or, Bool.false_or, List.take_succ_cons, List.take_zero, List.drop_succ_cons, List.drop_zero, List.cons_append, List.nil_append, List.drop_nil, List.all_cons, List.all_nil, Bool.true_and, Kd.isRo, List.size_toArray, List.toList_toArray, bldV, Nat.reduceLeDiff, Int.reduceMul, Int.reduceAdd, Int.reduceSub, Int.reduceToNat, maxLen_eq, zeros_one, appS_some, appV_n, appV_v, appH_t, appH_f, Kd.isEx, Bool.false_and, partV, Nat.add_zero, Int.toNat_natCast]) | (with_reducible refine condK_dec (fun _ => ?_) (fun _ => ?_)) | (with_reducible refine grd_dec (fun _ => ?_) (fun _ => ?_)) | (with_reducible refine egrd_dec (fun _ => ?_) (fun _ => ?_)))
  refine loop_w (fun m fr G => ∃ (k : Nat) (nb' : List Nat) (bl' : List (List WayE)), m = es.length - k ∧ k ≤ es.length ∧ fr 9 = .int .i64 (k : Int) ∧ HExt H G ∧ G.ob H.nx = .cells (fnC F A) 27 .ex ∧ K6.nx ≤ G.nx ∧ (∀ y, Kp.nx ≤ y → y < K6.nx → G.ob y = K6.ob y) ∧ RS G (H.nx + 4) (H.nx + 1) (H.nx + 2) (H.nx + 3) n R W rows2 mm2 nb' bl' nr rl ∧ (∀ y, Own nb' bl' n y → y < Kp.nx ∨ K6.nx ≤ y) ∧
      (∀ t, t < n → ∀ e ∈ bl'.getD t [], ∃ i : Nat, i < j + 1 ∧ e.t = (i : Int) ∧ ((t : Int), e.ws) ∈ waysF F i) ∧
      (∀ t, t < n → ∀ (i : Nat) ws, i < j → ((t : Int), ws) ∈ waysF F i → ∃ e ∈ bl'.getD t [], e.t = (i : Int) ∧ e.ws = ws) ∧
      (∀ i, i < k → ∀ p, (waysF F j)[i]? = some p → ∃ e ∈ bl'.getD p.1.toNat [], e.t = (j : Int) ∧ e.ws = p.2) ∧ ms (fun t => (bl'.getD t []).length) n ≤ 3 * j + k) (n := es.length)
    ⟨0, nb, bl, rfl, Nat.zero_le _, by (repeat' (first | (simp (disch := first | omega | (decide +kernel) | (repeat (first | assumption | exact HExt.refl _ | (refine HExt.set ?_ (by first | omega | (simp only [new_nx, set_nx]; omega)) _) | (refine HExt.new ?_ _)))) only [↓RD, RU, accW_t, accW_f, isW, ↓putF_get, ↓putF_none, ↓evF_t, ↓evF_c, ↓evF_f, new_nx, set_nx, new_get, set_get, getD_zero, getD_succ, u_not, pop, lop, aop, wop, resL, resV, tupleV, akV, isVal, isCell, Value.cells, List.map_cons, List.map_nil, Bool.not_true, Bool.not_false, Option.map_some, ↓reduceIte, Nat.reduceEqDiff, Nat.reduceAdd, Int.reduceOfNat, Int.reduceNegSucc, reduceCtorEq, List.getElem?_cons_zero, List.getElem?_cons_succ, List.length_cons, List.length_nil, srcR_c, src_n, src_v, src_s, bnd, lenV, capV, Option.isSome_none, Option.isNone_none, Option.isSome_some, Option.isNone_some, Bool.true_or, Bool.false_or, List.take_succ_cons, List.take_zero, List.drop_succ_cons, List.drop_zero, List.cons_append, List.nil_append, List.drop_nil, List.all_cons, List.all_nil, Bool.true_and, Kd.isRo, List.size_toArray, List.toList_toArray, bldV, Nat.reduceLeDiff, Int.reduceMul, Int.reduceAdd, Int.reduceSub, Int.reduceToNat, maxLen_eq, zeros_one, appS_some, appV_n, appV_v, appH_t, appH_f, Kd.isEx, Bool.false_and, partV, Nat.add_zero, Int.toNat_natCast]) | (with_reducible refine condK_dec (fun _ => ?_) (fun _ => ?_)) | (with_reducible refine grd_dec (fun _ => ?_) (fun _ => ?_)) | (with_reducible refine egrd_dec (fun _ => ?_) (fun _ => ?_)))); all_goals rfl, hE6, hb6, Nat.le_refl _, fun _ _ _ => rfl, hR6, fun y hy => .inl (hP0.b.own hy).2.1, fun t ht e he => by obtain ⟨i, h1, h2⟩ := hLB.b1 t ht e he; exact ⟨i, by omega, h2⟩, hLB.b2, fun i hi => absurd hi (Nat.not_lt_zero _), by have := hLB.s; omega⟩ ?_
  rintro m fr3 G ⟨k, nb', bl', rfl, hk, f9, hEG, hbG, hGn, hGx, hRG, hOw, hB1, hB2, hB3, hBs⟩ hag3
  by_cases hkl : k < es.length
  case pos =>
    rcases hg6 with ⟨h, _⟩ | ⟨b6, kd6, h, hb61, hb62, hob6, _⟩
    · rw [h] at hkl; exact absurd hkl (Nat.not_lt_zero _)
    cases h
    have hob6G := (hGx b6 hb61 hb62).trans hob6
    obtain ⟨ej, hej⟩ : ∃ ej, es[k]? = some ej := ⟨es[k], by simp [hkl]⟩
    have hpk : (waysF F j)[k]? = some (ej.t, ej.ws) := by rw [← hes, List.getElem?_map, hej]; rfl
    have hpm : (ej.t, ej.ws) ∈ waysF F j := List.mem_of_getElem? hpk
    have htr := ways_in hs hpm
    simp only at htr
    obtain ⟨tn, htn⟩ : ∃ tn : Nat, ej.t = (tn : Int) := ⟨ej.t.toNat, by omega⟩
    have htnn : tn < n := by omega
    obtain ⟨hg71, hg72⟩ := way_get es k ej hej
    rw [htn] at hg71
    have hfl := flat_len (f := wayC) (sz := 2) (fun e => rfl) es
    obtain ⟨hsl8, _, hlo8⟩ := hat6 ej (List.mem_of_getElem? hej)
    obtain ⟨vs, hvs, hvl, hvj⟩ := hRG.b.vs
    have hvt := hvj tn htnn
    have hR1 : RS (G.new (.cells [.int .i64 (j : Int), .slice ej.q ej.ws.length ej.c] 76 .ex)) (H.nx + 4) (H.nx + 1) (H.nx + 2) (H.nx + 3) n R W rows2 mm2 nb' bl' nr rl := hRG.ext (by (repeat (first | assumption | exact HExt.refl _ | (refine HExt.set ?_ (by first | omega | (simp only [new_nx, set_nx]; omega)) _) | (refine HExt.new ?_ _))))
    have hlenb : (bl'.getD tn []).length ≤ 3 * j + k := by
      have h1 := ms_upd (f := fun t => (bl'.getD t []).length) (g := fun t => if t = tn then 0 else (bl'.getD t []).length) (a := tn) (n := n) htnn (fun t ht => by simp only [if_neg ht])
      simp only [if_pos] at h1
      omega
    repeat' (first | (simp (disch := first | omega | (decide +kernel) | (repeat (first | assumption | exact HExt.refl _ | (refine HExt.set ?_ (by first | omega | (simp only [new_nx, set_nx]; omega)) _) | (refine HExt.new ?_ _)))) only [↓RD, RU, accW_t, accW_f, isW, ↓putF_get, ↓putF_none, ↓evF_t, ↓evF_c, ↓evF_f, new_nx, set_nx, new_get, set_get, getD_zero, getD_succ, u_not, pop, lop, aop, wop, resL, resV, tupleV, akV, isVal, isCell, Value.cells, List.map_cons, List.map_nil, Bool.not_true, Bool.not_false, Option.map_some, ↓reduceIte, Nat.reduceEqDiff, Nat.reduceAdd, Int.reduceOfNat, Int.reduceNegSucc, reduceCtorEq, List.getElem?_cons_zero, List.getElem?_cons_succ, List.length_cons, List.length_nil, srcR_c, src_n, src_v, src_s, bnd, lenV, capV, Option.isSome_none, Option.isNone_none, Option.isSome_some, Option.isNone_some, Bool.true_or, Bool.false_or, List.take_succ_cons, List.take_zero, List.drop_succ_cons, List.drop_zero, List.cons_append, List.nil_append, List.drop_nil, List.all_cons, List.all_nil, Bool.true_and, Kd.isRo, List.size_toArray, List.toList_toArray, bldV, Nat.reduceLeDiff, Int.reduceMul, Int.reduceAdd, Int.reduceSub, Int.reduceToNat, maxLen_eq, zeros_one, appS_some, appV_n, appV_v, appH_t, appH_f, Kd.isEx, Bool.false_and, partV, Nat.add_zero, Int.toNat_natCast, f9, f7, hag3, hag, hob6G, hg71, hg72, hfl, hvs, hvl, hvt]) | (with_reducible refine condK_dec (fun _ => ?_) (fun _ => ?_)) | (with_reducible refine grd_dec (fun _ => ?_) (fun _ => ?_)) | (with_reducible refine egrd_dec (fun _ => ?_) (fun _ => ?_)))
    refine gl_app (x := ⟨(j : Int), ej.ws, ej.q, ej.c⟩) bakC_ok hR1.b (by simp only [new_nx]; have := hRG.nx; omega) htnn (by omega) (by omega) rfl fun K' hKn' hot' hG' => ?_
    have hvs1 : (G.new (.cells [.int .i64 (j : Int), .slice ej.q ej.ws.length ej.c] 76 .ex)).ob (H.nx + 2) = .cells vs 74 .ex := by
      rw [new_get, if_neg (by have := hRG.nx; omega)]; exact hvs
    have hG'' := hG' vs hvs1
    have hown : ∀ y, y < G.nx → ¬ Own nb' bl' n y → K'.ob y = G.ob y := fun y h1 h2 => by
      rw [hot' y (by first | omega | (simp only [new_nx, set_nx]; omega)) (fun h3 e => h2 ⟨tn, htnn, h3, e⟩), new_get, if_neg (by omega)]
    have hGnx := hRG.nx
    have hlow : ∀ y, y < H.nx + 4 → ¬ Own nb' bl' n y := fun y hy ho => by have := (hRG.b.own ho).1; omega
    have hb6' : K'.ob b6 = .cells (es.flatMap wayC) 49 kd6 := (hown b6 (by omega) (fun ho => by rcases hOw b6 ho with h | h <;> omega)).trans hob6G
    have hvs' : K'.ob (H.nx + 2) = .cells vs 74 .ex := (hown _ (by omega) (hlow _ (by omega))).trans hvs
    have hsl8G : SlAt 1 (CInt .i64) (G.new (.cells [.int .i64 (j : Int), .slice ej.q ej.ws.length ej.c] 76 .ex)) ej.q ej.c ej.ws := hsl8.mv (by simp only [new_nx]; omega) fun l o hq => by
      have h1 := hlo8 l o hq
      have h2 := hsl8.lt hq
      rw [new_get, if_neg (by omega)]; exact hGx l h1 h2
    have hRN := hR1.pushB htnn hKn' hot' hG'' hsl8G (fun l o hq => by
      have h1 : Kp.nx ≤ l := hlo8 l o hq
      have h2 : l < K6.nx := hsl8.lt hq
      refine ⟨by omega, by simp only [new_nx]; omega, fun hm => ?_, fun ho => ?_, fun ho => ?_⟩
      · have := (hP0.o.los l hm).2; omega
      · rcases hOw l ho with h | h <;> omega
      · have := (hP0.r.own ho).2.1; omega)
    have hllb := hRG.b.ll
    have hgs : ∀ t, (bl'.set tn (bl'.getD tn [] ++ [(⟨(j : Int), ej.ws, ej.q, ej.c⟩ : WayE)])).getD t [] = if t = tn then bl'.getD tn [] ++ [(⟨(j : Int), ej.ws, ej.q, ej.c⟩ : WayE)] else bl'.getD t [] := fun t => getD_setL (by omega)
    repeat' (first | (simp (disch := first | omega | (decide +kernel) | (repeat (first | assumption | exact HExt.refl _ | (refine HExt.set ?_ (by first | omega | (simp only [new_nx, set_nx]; omega)) _) | (refine HExt.new ?_ _)))) only [↓RD, RU, accW_t, accW_f, isW, ↓putF_get, ↓putF_none, ↓evF_t, ↓evF_c, ↓evF_f, new_nx, set_nx, new_get, set_get, getD_zero, getD_succ, u_not, pop, lop, aop, wop, resL, resV, tupleV, akV, isVal, isCell, Value.cells, List.map_cons, List.map_nil, Bool.not_true, Bool.not_false, Option.map_some, ↓reduceIte, Nat.reduceEqDiff, Nat.reduceAdd, Int.reduceOfNat, Int.reduceNegSucc, reduceCtorEq, List.getElem?_cons_zero, List.getElem?_cons_succ, List.length_cons, List.length_nil, srcR_c, src_n, src_v, src_s, bnd, lenV, capV, Option.isSome_none, Option.isNone_none, Option.isSome_some, Option.isNone_some, Bool.true_or, Bool.false_or, List.take_succ_cons, List.take_zero, List.drop_succ_cons, List.drop_zero, List.cons_append, List.nil_append, List.drop_nil, List.all_cons, List.all_nil, Bool.true_and, Kd.isRo, List.size_toArray, List.toList_toArray, bldV, Nat.reduceLeDiff, Int.reduceMul, Int.reduceAdd, Int.reduceSub, Int.reduceToNat, maxLen_eq, zeros_one, appS_some, appV_n, appV_v, appH_t, appH_f, Kd.isEx, Bool.false_and, partV, Nat.add_zero, Int.toNat_natCast, f9, f7, hag3, hag, hb6', hg71, hg72, hfl, hvs', hvl, hob6G]) | (with_reducible refine condK_dec (fun _ => ?_) (fun _ => ?_)) | (with_reducible refine grd_dec (fun _ => ?_) (fun _ => ?_)) | (with_reducible refine egrd_dec (fun _ => ?_) (fun _ => ?_)))
    have hsub : ∀ t e, e ∈ bl'.getD t [] → e ∈ (bl'.set tn (bl'.getD tn [] ++ [(⟨(j : Int), ej.ws, ej.q, ej.c⟩ : WayE)])).getD t [] := fun t e he => by
      rw [hgs]; split
      · rename_i e'; subst e'; exact List.mem_append_left _ he
      · exact he
    refine ⟨_, by omega, k + 1, nb'.set tn (G.nx + 1), bl'.set tn (bl'.getD tn [] ++ [(⟨(j : Int), ej.ws, ej.q, ej.c⟩ : WayE)]), rfl, by omega, rfl, ⟨by have := hEG.nx; have h1 : K'.nx = G.nx + 1 + 1 := hKn'; simp only [set_nx]; omega, fun y hy => ?_⟩, ?_, by have h1 : K'.nx = G.nx + 1 + 1 := hKn'; omega, fun y h1 h2 => ?_, hRN, fun y ho => ?_, fun t ht e he => ?_, fun t ht i ws hi hw => ?_, fun i hi p hp => ?_, ?_⟩
    · rw [set_get, if_neg (by omega), hown y (by have := hEG.nx; omega) (hlow y (by omega))]; exact hEG.ob y hy
    · rw [hown _ (by omega) (hlow _ (by omega))]; exact hbG
    · rw [if_neg (by omega), hown y (by omega) (fun ho => by rcases hOw y ho with h | h <;> omega)]; exact hGx y h1 h2
    · rcases own_set hllb hRG.b.nl htnn ho with h | h
      · right; have h1 : (G.new (.cells [.int .i64 (j : Int), .slice ej.q ej.ws.length ej.c] 76 .ex)).nx = G.nx + 1 := rfl; omega
      · exact hOw y h
    · rw [hgs] at he
      by_cases e' : t = tn
      · rw [if_pos e'] at he
        rcases List.mem_append.1 he with h | h
        · rw [e']; exact hB1 tn htnn e h
        · simp at h; subst h
          exact ⟨j, by omega, rfl, by rw [e', ← htn]; exact hpm⟩
      · rw [if_neg e'] at he; exact hB1 t ht e he
    · obtain ⟨e, he, h1⟩ := hB2 t ht i ws hi hw
      exact ⟨e, hsub t e he, h1⟩
    · by_cases e' : i = k
      · subst e'
        rw [hpk] at hp
        cases hp
        refine ⟨⟨(j : Int), ej.ws, ej.q, ej.c⟩, ?_, rfl, rfl⟩
        simp only [htn, Int.toNat_natCast]
        rw [hgs, if_pos rfl]
        exact List.mem_append_right _ (by simp)
      · obtain ⟨e, he, h1⟩ := hB3 i (by omega) p hp
        exact ⟨e, hsub _ e he, h1⟩
    · have h1 := ms_upd (f := fun t => (bl'.getD t []).length) (g := fun t => ((bl'.set tn (bl'.getD tn [] ++ [(⟨(j : Int), ej.ws, ej.q, ej.c⟩ : WayE)])).getD t []).length) (a := tn) (n := n) htnn (fun t ht => by simp only [hgs, if_neg ht])
      have h2 : ((bl'.set tn (bl'.getD tn [] ++ [(⟨(j : Int), ej.ws, ej.q, ej.c⟩ : WayE)])).getD tn []).length = (bl'.getD tn []).length + 1 := by rw [hgs, if_pos rfl]; simp
      simp only [h2] at h1
      omega
  case neg =>
    have hkk : k = es.length := by omega
    have hbG' := hbK G hbG
    obtain ⟨li, o, os, e, kdi, hqi, hl1, hc, hm, hobi, hol, q, ci, hcs, hsl2, hio⟩ := hF.ins.el (show j < F.ins.length by omega)
    have hobK := (hEG.ob li hl1).trans hobi
    have hq2 : A.qi = some ⟨li, o, none⟩ := hqi
    have hgj := getD_at (show j < F.ins.length by omega)
    have hlen := hio.len
    have hrw := rw_len (i := F.ins[j])
    rw [reach_eq] at hlen
    rw [hq2] at hbG'
    repeat' (first | (simp (disch := first | omega | (decide +kernel) | (repeat (first | assumption | exact HExt.refl _ | (refine HExt.set ?_ (by first | omega | (simp only [new_nx, set_nx]; omega)) _) | (refine HExt.new ?_ _)))) only [↓RD, RU, accW_t, accW_f, isW, ↓putF_get, ↓putF_none, ↓evF_t, ↓evF_c, ↓evF_f, new_nx, set_nx, new_get, set_get, getD_zero, getD_succ, u_not, pop, lop, aop, wop, resL, resV, tupleV, akV, isVal, isCell, Value.cells, List.map_cons, List.map_nil, Bool.not_true, Bool.not_false, Option.map_some, ↓reduceIte, Nat.reduceEqDiff, Nat.reduceAdd, Int.reduceOfNat, Int.reduceNegSucc, reduceCtorEq, List.getElem?_cons_zero, List.getElem?_cons_succ, List.length_cons, List.length_nil, srcR_c, src_n, src_v, src_s, bnd, lenV, capV, Option.isSome_none, Option.isNone_none, Option.isSome_some, Option.isNone_some, Bool.true_or, Bool.false_or, List.take_succ_cons, List.take_zero, List.drop_succ_cons, List.drop_zero, List.cons_append, List.nil_append, List.drop_nil, List.all_cons, List.all_nil, Bool.true_and, Kd.isRo, List.size_toArray, List.toList_toArray, bldV, Nat.reduceLeDiff, Int.reduceMul, Int.reduceAdd, Int.reduceSub, Int.reduceToNat, maxLen_eq, zeros_one, appS_some, appV_n, appV_v, appH_t, appH_f, Kd.isEx, Bool.false_and, partV, Nat.add_zero, Int.toNat_natCast, f9, f7, hag3, hag, hbG', hobK, hcs, insC]) | (with_reducible refine condK_dec (fun _ => ?_) (fun _ => ?_)) | (with_reducible refine grd_dec (fun _ => ?_) (fun _ => ?_)) | (with_reducible refine egrd_dec (fun _ => ?_) (fun _ => ?_)))
    refine (rreads_wp hio (hsl2.good (CInt.good _) hEG)).mono fun v2 K2 ⟨hx2, hg2⟩ => ?_
    have hrow2 : ∀ x o n c, v2 = .slice (some ⟨x, o, none⟩) n c → G.nx ≤ x ∧ x < K2.nx := fun x o n c h => hg2.row h
    obtain ⟨q2, c2, hv2, hs2⟩ := hg2.sl (by omega) (reads_ok hio).1
    subst hv2
    obtain ⟨rs, hrse⟩ : ∃ rs, readsF F.ins[j] = rs := ⟨_, rfl⟩
    have hrin : ∀ x ∈ rs, 0 ≤ x ∧ x < F.regs := fun x hx => reads_in hs (show j < F.ins.length by omega) (by rw [hgj, hrse]; exact hx)
    rw [hrse] at hs2 hrw hrow2 ⊢
    have hn2 := hx2.nx
    have hGnx := hRG.nx
    have hE2 := hEG.trans hx2
    have hb2 := (hx2.ob H.nx (by omega)).trans hbG
    have hR2 := hRG.ext hx2
    have hLj : ms (fun i => 3 + (F.ins.getD i default).l.length) (j + 1) = ms (fun i => 3 + (F.ins.getD i default).l.length) j + (3 + F.ins[j].l.length) := by
      show ms _ j + (3 + (F.ins.getD j default).l.length) = _
      rw [hgj]
    have hLn := ms_mono (f := fun i => 3 + (F.ins.getD i default).l.length) (show j + 1 ≤ n by omega)
    repeat' (first | (simp (disch := first | omega | (decide +kernel) | (repeat (first | assumption | exact HExt.refl _ | (refine HExt.set ?_ (by first | omega | (simp only [new_nx, set_nx]; omega)) _) | (refine HExt.new ?_ _)))) only [↓RD, RU, accW_t, accW_f, isW, ↓putF_get, ↓putF_none, ↓evF_t, ↓evF_c, ↓evF_f, new_nx, set_nx, new_get, set_get, getD_zero, getD_succ, u_not, pop, lop, aop, wop, resL, resV, tupleV, akV, isVal, isCell, Value.cells, List.map_cons, List.map_nil, Bool.not_true, Bool.not_false, Option.map_some, ↓reduceIte, Nat.reduceEqDiff, Nat.reduceAdd, Int.reduceOfNat, Int.reduceNegSucc, reduceCtorEq, List.getElem?_cons_zero, List.getElem?_cons_succ, List.length_cons, List.length_nil, srcR_c, src_n, src_v, src_s, bnd, lenV, capV, Option.isSome_none, Option.isNone_none, Option.isSome_some, Option.isNone_some, Bool.true_or, Bool.false_or, List.take_succ_cons, List.take_zero, List.drop_succ_cons, List.drop_zero, List.cons_append, List.nil_append, List.drop_nil, List.all_cons, List.all_nil, Bool.true_and, Kd.isRo, List.size_toArray, List.toList_toArray, bldV, Nat.reduceLeDiff, Int.reduceMul, Int.reduceAdd, Int.reduceSub, Int.reduceToNat, maxLen_eq, zeros_one, appS_some, appV_n, appV_v, appH_t, appH_f, Kd.isEx, Bool.false_and, partV, Nat.add_zero, Int.toNat_natCast]) | (with_reducible refine condK_dec (fun _ => ?_) (fun _ => ?_)) | (with_reducible refine grd_dec (fun _ => ?_) (fun _ => ?_)) | (with_reducible refine egrd_dec (fun _ => ?_) (fun _ => ?_)))
    refine loop_w (fun m fr Q => ∃ (i : Nat) (nr' : List Nat) (rl' : List (List Nat)), m = rs.length - i ∧ i ≤ rs.length ∧ fr 11 = .int .i64 (i : Int) ∧ HExt H Q ∧ Q.ob H.nx = .cells (fnC F A) 27 .ex ∧ K2.nx ≤ Q.nx ∧ (∀ y, G.nx ≤ y → y < K2.nx → Q.ob y = K2.ob y) ∧ RS Q (H.nx + 4) (H.nx + 1) (H.nx + 2) (H.nx + 3) n R W rows2 mm2 nb' bl' nr' rl' ∧ (∀ y, Own nr' rl' R y → y < G.nx ∨ K2.nx ≤ y) ∧
        (∀ r, r < R → ∀ x, x ∈ rl'.getD r [] ↔ (x < j ∧ (r : Int) ∈ readsF (F.ins.getD x default)) ∨ (x = j ∧ (r : Int) ∈ rs.take i)) ∧
        ∀ r, r < R → (rl'.getD r []).length ≤ ms (fun i => 3 + (F.ins.getD i default).l.length) j + i) (n := rs.length)
      ⟨0, nr, rl, rfl, Nat.zero_le _, by (repeat' (first | (simp (disch := first | omega | (decide +kernel) | (repeat (first | assumption | exact HExt.refl _ | (refine HExt.set ?_ (by first | omega | (simp only [new_nx, set_nx]; omega)) _) | (refine HExt.new ?_ _)))) only [↓RD, RU, accW_t, accW_f, isW, ↓putF_get, ↓putF_none, ↓evF_t, ↓evF_c, ↓evF_f, new_nx, set_nx, new_get, set_get, getD_zero, getD_succ, u_not, pop, lop, aop, wop, resL, resV, tupleV, akV, isVal, isCell, Value.cells, List.map_cons, List.map_nil, Bool.not_true, Bool.not_false, Option.map_some, ↓reduceIte, Nat.reduceEqDiff, Nat.reduceAdd, Int.reduceOfNat, Int.reduceNegSucc, reduceCtorEq, List.getElem?_cons_zero, List.getElem?_cons_succ, List.length_cons, List.length_nil, srcR_c, src_n, src_v, src_s, bnd, lenV, capV, Option.isSome_none, Option.isNone_none, Option.isSome_some, Option.isNone_some, Bool.true_or, Bool.false_or, List.take_succ_cons, List.take_zero, List.drop_succ_cons, List.drop_zero, List.cons_append, List.nil_append, List.drop_nil, List.all_cons, List.all_nil, Bool.true_and, Kd.isRo, List.size_toArray, List.toList_toArray, bldV, Nat.reduceLeDiff, Int.reduceMul, Int.reduceAdd, Int.reduceSub, Int.reduceToNat, maxLen_eq, zeros_one, appS_some, appV_n, appV_v, appH_t, appH_f, Kd.isEx, Bool.false_and, partV, Nat.add_zero, Int.toNat_natCast]) | (with_reducible refine condK_dec (fun _ => ?_) (fun _ => ?_)) | (with_reducible refine grd_dec (fun _ => ?_) (fun _ => ?_)) | (with_reducible refine egrd_dec (fun _ => ?_) (fun _ => ?_)))); all_goals rfl, hE2, hb2, Nat.le_refl _, fun _ _ _ => rfl, hR2, fun y hy => .inl (hRG.r.own hy).2.1, fun r hr x => by rw [hLB.rd r hr]; simp, fun r hr => by have := hLB.l r hr; omega⟩ ?_
    rintro m fr4 Q ⟨i, nr', rl', rfl, hi, f11, hEQ, hbQ, hQn, hQx, hRQ, hOwQ, hRd, hRl⟩ hag4
    by_cases hil : i < rs.length
    case neg =>
      have htk : rs.take i = rs := List.take_of_length_le (by omega)
      rw [htk] at hRd
      repeat' (first | (simp (disch := first | omega | (decide +kernel) | (repeat (first | assumption | exact HExt.refl _ | (refine HExt.set ?_ (by first | omega | (simp only [new_nx, set_nx]; omega)) _) | (refine HExt.new ?_ _)))) only [↓RD, RU, accW_t, accW_f, isW, ↓putF_get, ↓putF_none, ↓evF_t, ↓evF_c, ↓evF_f, new_nx, set_nx, new_get, set_get, getD_zero, getD_succ, u_not, pop, lop, aop, wop, resL, resV, tupleV, akV, isVal, isCell, Value.cells, List.map_cons, List.map_nil, Bool.not_true, Bool.not_false, Option.map_some, ↓reduceIte, Nat.reduceEqDiff, Nat.reduceAdd, Int.reduceOfNat, Int.reduceNegSucc, reduceCtorEq, List.getElem?_cons_zero, List.getElem?_cons_succ, List.length_cons, List.length_nil, srcR_c, src_n, src_v, src_s, bnd, lenV, capV, Option.isSome_none, Option.isNone_none, Option.isSome_some, Option.isNone_some, Bool.true_or, Bool.false_or, List.take_succ_cons, List.take_zero, List.drop_succ_cons, List.drop_zero, List.cons_append, List.nil_append, List.drop_nil, List.all_cons, List.all_nil, Bool.true_and, Kd.isRo, List.size_toArray, List.toList_toArray, bldV, Nat.reduceLeDiff, Int.reduceMul, Int.reduceAdd, Int.reduceSub, Int.reduceToNat, maxLen_eq, zeros_one, appS_some, appV_n, appV_v, appH_t, appH_f, Kd.isEx, Bool.false_and, partV, Nat.add_zero, Int.toNat_natCast, f11, hag4, hag3, hag, f7]) | (with_reducible refine condK_dec (fun _ => ?_) (fun _ => ?_)) | (with_reducible refine grd_dec (fun _ => ?_) (fun _ => ?_)) | (with_reducible refine egrd_dec (fun _ => ?_) (fun _ => ?_)))
      refine ⟨_, by omega, j + 1, rows2, mm2, nb', bl', nr', rl', rfl, by omega, rfl, hEQ, hbQ, hRQ, hrl2, hmmz, ⟨hB1, fun t ht a ws ha hw => ?_, fun r hr x => ?_, by omega, fun r hr => ?_⟩⟩
      · by_cases e' : a = j
        · subst e'
          obtain ⟨idx, hidx, hget⟩ := List.getElem_of_mem hw
          obtain ⟨e, he, h1⟩ := hB3 idx (by omega) ((t : Int), ws) (by rw [List.getElem?_eq_getElem hidx, hget])
          exact ⟨e, by simpa using he, h1⟩
        · exact hB2 t ht a ws (by omega) hw
      · rw [hRd r hr x]
        constructor
        · rintro (⟨h1, h2⟩ | ⟨h1, h2⟩)
          · exact ⟨by omega, h2⟩
          · exact ⟨by omega, by rw [h1, hgj, hrse]; exact h2⟩
        · rintro ⟨h1, h2⟩
          by_cases e' : x = j
          · right; exact ⟨e', by rw [e', hgj, hrse] at h2; exact h2⟩
          · left; exact ⟨by omega, h2⟩
      · have := hRl r hr
        rw [hLj]; omega
    obtain ⟨l3, o3, os3, e3, kd3, hq3, hl3, hc3, hm3, hob3, hol3, hos3, hwf3⟩ := hs2.ints (by omega)
    subst hq3
    rw [maxLen_eq] at hm3
    have hrow3 := hrow2 _ _ _ _ rfl
    have hrc := hos3 i hil
    have hgk : rs.getD i 0 = rs[i] := by simp [List.getD, List.getElem?_eq_getElem hil]
    have hrlt := hrin _ (List.getElem_mem hil)
    obtain ⟨rn, hrn⟩ : ∃ rn : Nat, rs[i] = (rn : Int) := ⟨rs[i].toNat, by omega⟩
    rw [hgk, hrn] at hrc
    have hrnR : rn < R := by omega
    have hobQ := (hQx l3 hrow3.1 hrow3.2).trans hob3
    obtain ⟨vs, hvs, hvl, hvj⟩ := hRQ.r.vs
    have hvt := hvj rn hrnR
    have hQnx := hRQ.nx
    have hR1 : RS (Q.new (.cells [.int .i64 (j : Int)] 3 .ex)) (H.nx + 4) (H.nx + 1) (H.nx + 2) (H.nx + 3) n R W rows2 mm2 nb' bl' nr' rl' := hRQ.ext (by (repeat (first | assumption | exact HExt.refl _ | (refine HExt.set ?_ (by first | omega | (simp only [new_nx, set_nx]; omega)) _) | (refine HExt.new ?_ _))))
    have hrlr := hRl rn hrnR
    repeat' (first | (simp (disch := first | omega | (decide +kernel) | (repeat (first | assumption | exact HExt.refl _ | (refine HExt.set ?_ (by first | omega | (simp only [new_nx, set_nx]; omega)) _) | (refine HExt.new ?_ _)))) only [↓RD, RU, accW_t, accW_f, isW, ↓putF_get, ↓putF_none, ↓evF_t, ↓evF_c, ↓evF_f, new_nx, set_nx, new_get, set_get, getD_zero, getD_succ, u_not, pop, lop, aop, wop, resL, resV, tupleV, akV, isVal, isCell, Value.cells, List.map_cons, List.map_nil, Bool.not_true, Bool.not_false, Option.map_some, ↓reduceIte, Nat.reduceEqDiff, Nat.reduceAdd, Int.reduceOfNat, Int.reduceNegSucc, reduceCtorEq, List.getElem?_cons_zero, List.getElem?_cons_succ, List.length_cons, List.length_nil, srcR_c, src_n, src_v, src_s, bnd, lenV, capV, Option.isSome_none, Option.isNone_none, Option.isSome_some, Option.isNone_some, Bool.true_or, Bool.false_or, List.take_succ_cons, List.take_zero, List.drop_succ_cons, List.drop_zero, List.cons_append, List.nil_append, List.drop_nil, List.all_cons, List.all_nil, Bool.true_and, Kd.isRo, List.size_toArray, List.toList_toArray, bldV, Nat.reduceLeDiff, Int.reduceMul, Int.reduceAdd, Int.reduceSub, Int.reduceToNat, maxLen_eq, zeros_one, appS_some, appV_n, appV_v, appH_t, appH_f, Kd.isEx, Bool.false_and, partV, Nat.add_zero, Int.toNat_natCast, f11, f7, hag4, hag3, hag, hobQ, hrc, hvs, hvl, hvt]) | (with_reducible refine condK_dec (fun _ => ?_) (fun _ => ?_)) | (with_reducible refine grd_dec (fun _ => ?_) (fun _ => ?_)) | (with_reducible refine egrd_dec (fun _ => ?_) (fun _ => ?_)))
    refine gl_app (x := j) natC_ok hR1.r (by simp only [new_nx]; omega) hrnR (by omega) (by omega) rfl fun K' hKn' hot' hG' => ?_
    have hvs1 : (Q.new (.cells [.int .i64 (j : Int)] 3 .ex)).ob (H.nx + 3) = .cells vs 39 .ex := by
      rw [new_get, if_neg (by omega)]; exact hvs
    have hG'' := hG' vs hvs1
    have hown : ∀ y, y < Q.nx → ¬ Own nr' rl' R y → K'.ob y = Q.ob y := fun y h1 h2 => by
      rw [hot' y (by first | omega | (simp only [new_nx, set_nx]; omega)) (fun h3 e => h2 ⟨rn, hrnR, h3, e⟩), new_get, if_neg (by omega)]
    have hlow : ∀ y, y < H.nx + 4 → ¬ Own nr' rl' R y := fun y hy ho => by have := (hRQ.r.own ho).1; omega
    have hob' : K'.ob l3 = .cells os3 e3 kd3 := (hown l3 (by omega) (fun ho => by rcases hOwQ l3 ho with h | h <;> omega)).trans hobQ
    have hvs' : K'.ob (H.nx + 3) = .cells vs 39 .ex := (hown _ (by omega) (hlow _ (by omega))).trans hvs
    have hRN := hR1.pushR hrnR hKn' hot' hG''
    have hKn2 : K'.nx = Q.nx + 1 + 1 := hKn'
    have hllr := hRQ.r.ll
    have hgs : ∀ t, (rl'.set rn (rl'.getD rn [] ++ [j])).getD t [] = if t = rn then rl'.getD rn [] ++ [j] else rl'.getD t [] := fun t => getD_setL (by omega)
    repeat' (first | (simp (disch := first | omega | (decide +kernel) | (repeat (first | assumption | exact HExt.refl _ | (refine HExt.set ?_ (by first | omega | (simp only [new_nx, set_nx]; omega)) _) | (refine HExt.new ?_ _)))) only [↓RD, RU, accW_t, accW_f, isW, ↓putF_get, ↓putF_none, ↓evF_t, ↓evF_c, ↓evF_f, new_nx, set_nx, new_get, set_get, getD_zero, getD_succ, u_not, pop, lop, aop, wop, resL, resV, tupleV, akV, isVal, isCell, Value.cells, List.map_cons, List.map_nil, Bool.not_true, Bool.not_false, Option.map_some, ↓reduceIte, Nat.reduceEqDiff, Nat.reduceAdd, Int.reduceOfNat, Int.reduceNegSucc, reduceCtorEq, List.getElem?_cons_zero, List.getElem?_cons_succ, List.length_cons, List.length_nil, srcR_c, src_n, src_v, src_s, bnd, lenV, capV, Option.isSome_none, Option.isNone_none, Option.isSome_some, Option.isNone_some, Bool.true_or, Bool.false_or, List.take_succ_cons, List.take_zero, List.drop_succ_cons, List.drop_zero, List.cons_append, List.nil_append, List.drop_nil, List.all_cons, List.all_nil, Bool.true_and, Kd.isRo, List.size_toArray, List.toList_toArray, bldV, Nat.reduceLeDiff, Int.reduceMul, Int.reduceAdd, Int.reduceSub, Int.reduceToNat, maxLen_eq, zeros_one, appS_some, appV_n, appV_v, appH_t, appH_f, Kd.isEx, Bool.false_and, partV, Nat.add_zero, Int.toNat_natCast, f11, f7, hag4, hag3, hag, hob', hrc, hvs', hvl, hobQ]) | (with_reducible refine condK_dec (fun _ => ?_) (fun _ => ?_)) | (with_reducible refine grd_dec (fun _ => ?_) (fun _ => ?_)) | (with_reducible refine egrd_dec (fun _ => ?_) (fun _ => ?_)))
    refine ⟨_, by omega, i + 1, nr'.set rn (Q.nx + 1), rl'.set rn (rl'.getD rn [] ++ [j]), rfl, by omega, rfl, ⟨by have := hEQ.nx; simp only [set_nx]; omega, fun y hy => ?_⟩, ?_, by omega, fun y h1 h2 => ?_, hRN, fun y ho => ?_, fun r hr x => ?_, fun r hr => ?_⟩
    · rw [set_get, if_neg (by omega), hown y (by have := hEQ.nx; omega) (hlow y (by omega))]; exact hEQ.ob y hy
    · rw [hown _ (by omega) (hlow _ (by omega))]; exact hbQ
    · rw [if_neg (by omega), hown y (by omega) (fun ho => by rcases hOwQ y ho with h | h <;> omega)]; exact hQx y h1 h2
    · rcases own_set hllr hRQ.r.nl hrnR ho with h | h
      · right; have h1 : (Q.new (.cells [.int .i64 (j : Int)] 3 .ex)).nx = Q.nx + 1 := rfl; omega
      · exact hOwQ y h
    · have htk : rs.take (i + 1) = rs.take i ++ [(rn : Int)] := by rw [List.take_add_one, List.getElem?_eq_getElem hil, hrn]; rfl
      rw [hgs, htk]
      by_cases e' : r = rn
      · rw [if_pos e']
        subst e'
        rw [List.mem_append, hRd r hr x]
        simp only [List.mem_append, List.mem_singleton]
        constructor
        · rintro ((h | h) | h)
          · exact .inl h
          · exact .inr ⟨h.1, .inl h.2⟩
          · exact .inr ⟨h, by simp⟩
        · rintro (h | ⟨h1, h2 | h2⟩)
          · exact .inl (.inl h)
          · exact .inl (.inr ⟨h1, h2⟩)
          · exact .inr h1
      · rw [if_neg e', hRd r hr x]
        simp only [List.mem_append, List.mem_singleton]
        have : ¬ ((r : Int) = (rn : Int)) := by omega
        simp [this]
    · rw [hgs]
      split
      · rw [List.length_append, List.length_singleton]; omega
      · have := hRl r hr; omega
end Can
end Go.Proofs.Ytapcoeecjlkdgaa
