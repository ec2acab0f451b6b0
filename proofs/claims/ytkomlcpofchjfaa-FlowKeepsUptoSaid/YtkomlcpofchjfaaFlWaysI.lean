/- Flow: Ways of the program. -/
import Derived.Test.YtkomlcpofchjfaaFlWays
namespace Go.Proofs.Ytkomlcpofchjfaa
namespace Can
open Go Go.RowKit
set_option linter.unusedSimpArgs false
set_option linter.unusedVariables false
set_option maxRecDepth 4000
/-- An append, with what becomes of the row. -/
theorem grw_app2 {α : Type} {A K : CH} {e sz bytes : Nat} {f : α → List Value} (hf : ∀ x, (f x).length = sz ∧ (f x).all isCell = true) {v : Value} {xs ys : List α} (hg : Grw A e sz f K v xs) (hA : A.nx ≤ K.nx) (hb : (xs.length + ys.length) * bytes ≤ 140737488355328) (hm : xs.length + ys.length ≤ 9223372036854775807) :
    ∃ v' K', appV e sz bytes v (ys.flatMap f) ys.length K = some (v', K') ∧ Grw A e sz f K' v' (xs ++ ys) ∧ K.nx ≤ K'.nx ∧ (∀ l, l < K.nx → (∀ o n c, v ≠ .slice (some ⟨l, o, none⟩) n c) → K'.ob l = K.ob l) ∧ (∀ x o n c, v' = .slice (some ⟨x, o, none⟩) n c → K.nx ≤ x ∨ ∃ o n c, v = .slice (some ⟨x, o, none⟩) n c) := by
  have hall : (ys.flatMap f).all isCell = true := by
    rw [List.all_eq_true]; intro x hx
    obtain ⟨y, _, hy⟩ := List.mem_flatMap.1 hx
    exact List.all_eq_true.1 (hf y).2 x hy
  rcases hg with ⟨rfl, rfl⟩ | ⟨b, kd, rfl, h1, h2, h3, hkd⟩
  · by_cases h0 : ys.length = 0
    · have : ys = [] := List.length_eq_zero_iff.1 h0
      subst this
      exact ⟨_, K, by simp [appV], .inl ⟨rfl, rfl⟩, Nat.le_refl _, fun _ _ _ => rfl, fun x o n c h => by cases h⟩
    · refine ⟨_, _, by simp only [appV, h0, if_false]; rw [if_pos ⟨hall, by simpa using hb, by rw [maxLen_eq]; simpa using hm⟩], .inr ⟨K.nx, .gr, by simp, hA, Nat.lt_succ_self _, by simp [new_get], rfl⟩, Nat.le_succ _, fun l hl _ => by rw [new_get, if_neg (by omega)], fun x o n c h => .inl (by cases h; exact Nat.le_refl _)⟩
  · by_cases h0 : ys.length = 0
    · have : ys = [] := List.length_eq_zero_iff.1 h0
      subst this
      exact ⟨.slice (some ⟨b, 0, none⟩) xs.length xs.length, K, by simp [appV, h3], .inr ⟨b, kd, by simp, h1, h2, by simpa using h3, hkd⟩, Nat.le_refl _, fun _ _ _ => rfl, fun x o n c h => .inr ⟨_, _, _, h⟩⟩
    · have hlen : (xs.flatMap f).length = xs.length * sz := flat_len (fun x => (hf x).1) xs
      have hnx : ∀ o, (appH (kd.isEx && decide (xs.length < xs.length + ys.length)) K b o).nx = K.nx + 1 := fun o => by unfold appH; split <;> rfl
      have hat : ∀ o, (appH (kd.isEx && decide (xs.length < xs.length + ys.length)) K b o).ob K.nx = o := fun o => by
        unfold appH; split <;> (simp only [CH.new, CH.set]; simp)
      have hot : ∀ o l, l < K.nx → l ≠ b → (appH (kd.isEx && decide (xs.length < xs.length + ys.length)) K b o).ob l = K.ob l := fun o l hl hb => by
        unfold appH
        split
        · rw [new_get, if_neg (by omega)]
        · rw [new_get, if_neg (by show l ≠ K.nx; omega), set_get, if_neg hb]
      refine ⟨_, _, by simp only [appV, h3, h0, if_false]; rw [if_pos ⟨trivial, trivial, hkd, by rw [hlen]; exact Nat.le_refl _, hall, hb, by rw [maxLen_eq]; exact hm⟩], .inr ⟨K.nx, .gr, by simp, hA, ?_, ?_, rfl⟩, ?_, fun l hl hne => ?_, fun x o n c h => .inl (by cases h; exact Nat.le_refl _)⟩
      · rw [hnx]; exact Nat.lt_succ_self _
      · rw [hat, ← hlen, List.take_length, List.flatMap_append]
      · rw [hnx]; exact Nat.le_succ _
      · refine hot _ l hl ?_
        rintro rfl
        exact hne _ _ _ rfl
theorem app2 {A K : CH} {v : Value} {xs ys : List Int} {us : List Value} {m : Nat} (hg : Grw A 3 1 (ints .i64) K v xs) (hA : A.nx ≤ K.nx) (hb : (xs.length + ys.length) * 8 ≤ 140737488355328) (hu : us = ys.flatMap (ints .i64)) (hl : m = ys.length)
    {Q : Value → CH → Prop} (k : ∀ v' K', Grw A 3 1 (ints .i64) K' v' (xs ++ ys) → K.nx ≤ K'.nx → (∀ l, l < K.nx → (∀ o n c, v ≠ .slice (some ⟨l, o, none⟩) n c) → K'.ob l = K.ob l) → (∀ x o n c, v' = .slice (some ⟨x, o, none⟩) n c → K.nx ≤ x ∨ ∃ o n c, v = .slice (some ⟨x, o, none⟩) n c) → Q v' K') : optW (appV 3 1 8 v us m K) Q := by
  subst hu hl
  obtain ⟨v', K', h1, h2, h3, h4, h5⟩ := grw_app2 (ints_ok .i64) hg hA hb (by omega)
  rw [h1]
  exact k v' K' h2 h3 h4 h5
theorem Grw.mv {α : Type} {A : CH} {e sz : Nat} {f : α → List Value} {K K' : CH} {v : Value} {xs : List α} (h : Grw A e sz f K v xs) (hk : ∀ x, A.nx ≤ x → x < K.nx → K'.ob x = K.ob x) (hn : K.nx ≤ K'.nx) : Grw A e sz f K' v xs := by
  rcases h with h | ⟨b, kd, h0, h1, h2, h3, h4⟩
  · exact .inl h
  · exact .inr ⟨b, kd, h0, h1, Nat.lt_of_lt_of_le h2 hn, (hk b h1 h2).trans h3, h4⟩
theorem Grw.row {α : Type} {A : CH} {e sz : Nat} {f : α → List Value} {K : CH} {v : Value} {xs : List α} (h : Grw A e sz f K v xs) {x o n c : Nat} (hv : v = .slice (some ⟨x, o, none⟩) n c) : A.nx ≤ x ∧ x < K.nx := by
  subst hv
  rcases h with ⟨_, h⟩ | ⟨b, kd, h0, h1, h2, h3, h4⟩
  · cases h
  · cases h0; exact ⟨h1, h2⟩
theorem take_map_snoc {α β : Type} {f : α → β} {xs : List α} {k : Nat} {x : α} (h : xs[k]? = some x) : (xs.take k).map f ++ [f x] = (xs.take (k + 1)).map f := by
  obtain ⟨hk, rfl⟩ := List.getElem?_eq_some_iff.1 h
  rw [List.take_succ_eq_append_getElem hk, List.map_append]
  rfl
/-- How many ways there can be. -/
theorem ways_few {F : Fn'} {a : Int} : (waysF F a).length ≤ 3 := by
  by_cases h : 0 ≤ a ∧ a < F.ins.length
  · rw [ways_len h]
    have : (goesF (insAt F a) a).length ≤ 2 := by unfold goesF; (repeat' split) <;> simp
    split <;> omega
  · unfold waysF; rw [if_neg h]; simp
theorem ways_collect {A0 K0 : CH} {F : Fn'} {A : FnA} {pa pf cell l : Nat} {a : Int} {fr : Fr} (hl : l = K0.nx) (hF : FnOk A0 F A) (ha : i64r a) (hA : HExt A0 K0) (hpa : K0.ob pa = .cells [.int .i64 a] 3 .ex) (hpf : K0.ob pf = .cells (fnC F A) 27 .ex)
    (hce : K0.ob cell = .cells [.slice none 0 0] 36 .ex) (hla : pa < K0.nx) (hlf : pf < K0.nx) (hlc : cell < K0.nx) (hge : A0.nx ≤ cell) (h1 : cell ≠ pa) (h2 : cell ≠ pf) (hfr : fr 5 = .pointer (some ⟨cell, 0, none⟩)) :
    WpF (tblG Try.prog LG GG) 40 [.func (.yield l) #[] #[], .pointer (some ⟨pa, 0, none⟩), .pointer (some ⟨pf, 0, none⟩)] (K0.new (.loop .ready none fr (25, 0))) fun _ K =>
      (∃ v, K.ob cell = .cells [v] 36 .ex ∧ Grw (K0.new (.loop .ready none fr (25, 0))) 3 1 (ints .i64) K v ((waysF F a).map (·.1))) ∧ K.ob K0.nx = .loop .ready none fr (25, 0) ∧ K0.nx + 1 ≤ K.nx ∧ ∀ x, x < K0.nx → x ≠ cell → K.ob x = K0.ob x := by
  subst hl
  have hn0 : (K0.new (.loop .ready none fr (25, 0))).nx = K0.nx + 1 := rfl
  refine (ways_it (A0 := A0) (H := K0.new (.loop .ready none fr (25, 0))) (l := K0.nx) hF ha (hA.new _) (S := fun x => x = cell ∨ x = K0.nx) (fun x hx => ?_) (fun x hx => ?_) ?_ ?_ ?_ ?_ (by omega) (by omega)
    (fun k O K => K.ob K0.nx = .loop .ready none fr (25, 0) ∧ K0.nx + 1 ≤ K.nx ∧ ∃ v, K.ob cell = .cells [v] 36 .ex ∧ Grw (K0.new (.loop .ready none fr (25, 0))) 3 1 (ints .i64) K v (((waysF F a).take k).map (·.1)) ∧ ∀ x, O x ↔ (x = cell ∨ x = K0.nx) ∨ ∃ o n c, v = .slice (some ⟨x, o, none⟩) n c)
    ?_ ?_ ?_).mono ?_
  · rcases hx with rfl | rfl
    · exact hge
    · exact hA.nx
  · rcases hx with rfl | rfl <;> omega
  · simp only [not_or]; omega
  · simp only [not_or]; omega
  · rw [new_get, if_neg (by omega)]; exact hpa
  · rw [new_get, if_neg (by omega)]; exact hpf
  · rintro k O K K' ⟨i1, i2, v, i3, i4, i5⟩ hx
    exact ⟨(hx.ob _ (by omega)).trans i1, Nat.le_trans i2 hx.nx, v, (hx.ob _ (by omega)).trans i3, i4.ext hx, i5⟩
  · refine ⟨by rw [new_get, if_pos rfl], Nat.le_refl _, _, by rw [new_get, if_neg (by omega)]; exact hce, .inl ⟨by simp, rfl⟩, fun x => ⟨fun h => .inl h, fun h => ?_⟩⟩
    rcases h with h | ⟨o, n, c, h⟩
    · exact h
    · cases h
  · rintro k t ws hk O K q c hSK hOK ⟨i1, i2, v, i3, i4, i5⟩ hsl
    refine wpY_rG (by kernel_rfl) i1 (by kernel_rfl) ?_; (conv in (rL _ _).1 => reduce); (conv in (rL _ _).2.1 => reduce); (conv in (rL _ _).2.2 => reduce); simp only [putPs, List.zip_cons_cons, List.zip_nil_right, List.zip_nil_left, List.foldl_cons, List.foldl_nil]
    repeat' (first | (simp (disch := first | omega | (decide +kernel) | (repeat (first | assumption | exact HExt.refl _ | (refine HExt.set ?_ (by first | omega | (simp only [new_nx, set_nx]; omega)) _) | (refine HExt.new ?_ _)))) only [↓RD, RU, accW_t, accW_f, isW, ↓putF_get, ↓putF_none, ↓evF_t, ↓evF_c, ↓evF_f, new_nx, set_nx, new_get, set_get, getD_zero, getD_succ, u_not, pop, lop, aop, wop, resL, resV, tupleV, akV, isVal, isCell, Value.cells, List.map_cons, List.map_nil, Bool.not_true, Bool.not_false, Option.map_some, ↓reduceIte, Nat.reduceEqDiff, Nat.reduceAdd, Int.reduceOfNat, Int.reduceNegSucc, reduceCtorEq, List.getElem?_cons_zero, List.getElem?_cons_succ, List.length_cons, List.length_nil, srcR_c, src_n, src_v, src_s, bnd, lenV, capV, Option.isSome_none, Option.isNone_none, Option.isSome_some, Option.isNone_some, Bool.true_or, Bool.false_or, List.take_succ_cons, List.take_zero, List.drop_succ_cons, List.drop_zero, List.cons_append, List.nil_append, List.drop_nil, List.all_cons, List.all_nil, Bool.true_and, Kd.isRo, List.size_toArray, List.toList_toArray, bldV, Nat.reduceLeDiff, Int.reduceMul, Int.reduceAdd, Int.reduceSub, Int.reduceToNat, maxLen_eq, zeros_one, appS_some, appV_n, appV_v, appH_t, appH_f, Kd.isEx, Bool.false_and, partV, Nat.add_zero, Int.toNat_natCast, hfr, roundK_some i1, i3]) | (with_reducible refine condK_dec (fun _ => ?_) (fun _ => ?_)) | (with_reducible refine grd_dec (fun _ => ?_) (fun _ => ?_)) | (with_reducible refine egrd_dec (fun _ => ?_) (fun _ => ?_)))
    have hnr : ∀ x, x ≤ K0.nx → ∀ o n c, v ≠ .slice (some ⟨x, o, none⟩) n c := fun x hx o n c hv => by have := (i4.row hv).1; rw [hn0] at this; omega
    have hfew := ways_few (F := F) (a := a)
    refine app2 (A := K0.new (.loop .ready none fr (25, 0))) (xs := ((waysF F a).take k).map (·.1)) (ys := [t]) (i4.mv (fun x hx hx2 => ?_) (by first | omega | (simp only [new_nx, set_nx]; omega))) (by first | omega | (simp only [new_nx, set_nx]; omega)) (by simp only [List.length_map, List.length_take, List.length_singleton]; omega) rfl rfl fun v3 K3 hg3 hn3 hk3 hr3 => ?_
    · rw [hn0] at hx
      simp only [new_get, set_get]
      rw [if_neg (by simp only [set_nx]; omega), if_neg (by omega)]
    have hK3 : ∀ x, x < K.nx → x ≠ K0.nx → (∀ o n c, v ≠ .slice (some ⟨x, o, none⟩) n c) → K3.ob x = K.ob x := fun x hx hx0 hv => by
      rw [hk3 x (by simp only [new_nx, set_nx]; omega) hv, new_get, if_neg (by simp only [set_nx]; omega), set_get, if_neg hx0]
    have hc3 : K3.ob cell = .cells [v] 36 .ex := (hK3 cell (by omega) (by omega) (hnr cell (by omega))).trans i3
    have hl3 : K3.ob K0.nx = .loop .busy none fr (25, 0) := by
      rw [hk3 K0.nx (by simp only [new_nx, set_nx]; omega) (hnr _ (Nat.le_refl _)), new_get, if_neg (by simp only [set_nx]; omega), set_get, if_pos rfl]
    obtain ⟨b3, n3, rfl⟩ : ∃ b3 n3, v3 = .slice (some ⟨b3, 0, none⟩) n3 n3 := by
      rcases hg3 with ⟨h, _⟩ | ⟨b, kd, h, _⟩
      · simp at h
      · exact ⟨b, _, h⟩
    have hn3' : K.nx + 1 ≤ K3.nx := hn3
    repeat' (first | (simp (disch := first | omega | (decide +kernel) | (repeat (first | assumption | exact HExt.refl _ | (refine HExt.set ?_ (by first | omega | (simp only [new_nx, set_nx]; omega)) _) | (refine HExt.new ?_ _)))) only [↓RD, RU, accW_t, accW_f, isW, ↓putF_get, ↓putF_none, ↓evF_t, ↓evF_c, ↓evF_f, new_nx, set_nx, new_get, set_get, getD_zero, getD_succ, u_not, pop, lop, aop, wop, resL, resV, tupleV, akV, isVal, isCell, Value.cells, List.map_cons, List.map_nil, Bool.not_true, Bool.not_false, Option.map_some, ↓reduceIte, Nat.reduceEqDiff, Nat.reduceAdd, Int.reduceOfNat, Int.reduceNegSucc, reduceCtorEq, List.getElem?_cons_zero, List.getElem?_cons_succ, List.length_cons, List.length_nil, srcR_c, src_n, src_v, src_s, bnd, lenV, capV, Option.isSome_none, Option.isNone_none, Option.isSome_some, Option.isNone_some, Bool.true_or, Bool.false_or, List.take_succ_cons, List.take_zero, List.drop_succ_cons, List.drop_zero, List.cons_append, List.nil_append, List.drop_nil, List.all_cons, List.all_nil, Bool.true_and, Kd.isRo, List.size_toArray, List.toList_toArray, bldV, Nat.reduceLeDiff, Int.reduceMul, Int.reduceAdd, Int.reduceSub, Int.reduceToNat, maxLen_eq, zeros_one, appS_some, appV_n, appV_v, appH_t, appH_f, Kd.isEx, Bool.false_and, partV, Nat.add_zero, Int.toNat_natCast, hfr, hc3]) | (with_reducible refine condK_dec (fun _ => ?_) (fun _ => ?_)) | (with_reducible refine grd_dec (fun _ => ?_) (fun _ => ?_)) | (with_reducible refine egrd_dec (fun _ => ?_) (fun _ => ?_)))
    have hK5 : (K3.set cell (.cells [.slice (some ⟨b3, 0, none⟩) n3 n3] 36 .ex)).ob K0.nx = .loop .busy none fr (25, 0) := by rw [set_get, if_neg (by omega)]; exact hl3
    refine (endK_n hK5).2 ?_
    refine ⟨rfl, fun x => (x = cell ∨ x = K0.nx) ∨ ∃ o n c, Value.slice (some ⟨b3, 0, none⟩) n3 n3 = .slice (some ⟨x, o, none⟩) n c, ⟨by rw [set_get, if_pos rfl], by simp only [set_nx]; omega, _, by rw [set_get, if_neg (by omega), set_get, if_pos rfl], ?_, fun x => Iff.rfl⟩, ⟨by simp only [set_nx]; omega, fun x hx ho => ?_⟩, fun x hx => ?_⟩
    · rw [← take_map_snoc hk]
      refine hg3.mv (fun x hx hx2 => ?_) (Nat.le_refl _)
      rw [hn0] at hx
      rw [set_get, if_neg (by omega), set_get, if_neg (by omega)]
    · rw [i5] at ho
      simp only [not_or] at ho
      rw [set_get, if_neg ho.1.2, set_get, if_neg ho.1.1]
      exact hK3 x hx ho.1.2 fun o n c hv => ho.2 ⟨o, n, c, hv⟩
    · rcases hx with hx | ⟨o, n, c, hx⟩
      · exact .inl ((i5 x).2 (.inl hx))
      · rcases hr3 x o n c hx with h | h
        · exact .inr (by simp only [new_nx, set_nx] at h; omega)
        · exact .inl ((i5 x).2 (.inr h))
  · rintro u K ⟨hSK, O, ⟨i1, i2, v, i3, i4, i5⟩, hO⟩
    rw [List.take_length] at i4
    refine ⟨⟨v, i3, i4⟩, i1, i2, fun x hx hne => ?_⟩
    have := hSK.ob x (by rw [hn0]; omega) (by simp only [not_or]; omega)
    rw [this, new_get, if_neg (by omega)]
theorem ways_wp {H : CH} {F : Fn'} {A : FnA} (hF : FnOk H F A) {a : Int} (ha : i64r a) :
    WpF (tblG Try.prog LG GG) 25 [.agg (fnC F A).toArray, .int .i64 a] H fun v K => HExt H K ∧ Grw H 3 1 (ints .i64) K v ((waysF F a).map (·.1)) := by
  refine wpF_rG (by rfl) (by kernel_rfl) ?_; (conv in (rF _ _).body => reduce); (conv in (rF _ _).res => reduce)
  repeat' (first | (simp (disch := first | omega | (decide +kernel) | (repeat (first | assumption | exact HExt.refl _ | (refine HExt.set ?_ (by first | omega | (simp only [new_nx, set_nx]; omega)) _) | (refine HExt.new ?_ _)))) only [↓RD, RU, accW_t, accW_f, isW, ↓putF_get, ↓putF_none, ↓evF_t, ↓evF_c, ↓evF_f, new_nx, set_nx, new_get, set_get, getD_zero, getD_succ, u_not, pop, lop, aop, wop, resL, resV, tupleV, akV, isVal, isCell, Value.cells, List.map_cons, List.map_nil, Bool.not_true, Bool.not_false, Option.map_some, ↓reduceIte, Nat.reduceEqDiff, Nat.reduceAdd, Int.reduceOfNat, Int.reduceNegSucc, reduceCtorEq, List.getElem?_cons_zero, List.getElem?_cons_succ, List.length_cons, List.length_nil, srcR_c, src_n, src_v, src_s, bnd, lenV, capV, Option.isSome_none, Option.isNone_none, Option.isSome_some, Option.isNone_some, Bool.true_or, Bool.false_or, List.take_succ_cons, List.take_zero, List.drop_succ_cons, List.drop_zero, List.cons_append, List.nil_append, List.drop_nil, List.all_cons, List.all_nil, Bool.true_and, Kd.isRo, List.size_toArray, List.toList_toArray, bldV, Nat.reduceLeDiff, Int.reduceMul, Int.reduceAdd, Int.reduceSub, Int.reduceToNat, maxLen_eq, zeros_one, appS_some, appV_n, appV_v, appH_t, appH_f, Kd.isEx, Bool.false_and, partV, Nat.add_zero, Int.toNat_natCast, fnC]) | (with_reducible refine condK_dec (fun _ => ?_) (fun _ => ?_)) | (with_reducible refine grd_dec (fun _ => ?_) (fun _ => ?_)) | (with_reducible refine egrd_dec (fun _ => ?_) (fun _ => ?_)))
  refine wpF_rG (by rfl) (by kernel_rfl) ?_; (conv in (rF _ _).body => reduce); (conv in (rF _ _).res => reduce)
  repeat' (first | (simp (disch := first | omega | (decide +kernel) | (repeat (first | assumption | exact HExt.refl _ | (refine HExt.set ?_ (by first | omega | (simp only [new_nx, set_nx]; omega)) _) | (refine HExt.new ?_ _)))) only [↓RD, RU, accW_t, accW_f, isW, ↓putF_get, ↓putF_none, ↓evF_t, ↓evF_c, ↓evF_f, new_nx, set_nx, new_get, set_get, getD_zero, getD_succ, u_not, pop, lop, aop, wop, resL, resV, tupleV, akV, isVal, isCell, Value.cells, List.map_cons, List.map_nil, Bool.not_true, Bool.not_false, Option.map_some, ↓reduceIte, Nat.reduceEqDiff, Nat.reduceAdd, Int.reduceOfNat, Int.reduceNegSucc, reduceCtorEq, List.getElem?_cons_zero, List.getElem?_cons_succ, List.length_cons, List.length_nil, srcR_c, src_n, src_v, src_s, bnd, lenV, capV, Option.isSome_none, Option.isNone_none, Option.isSome_some, Option.isNone_some, Bool.true_or, Bool.false_or, List.take_succ_cons, List.take_zero, List.drop_succ_cons, List.drop_zero, List.cons_append, List.nil_append, List.drop_nil, List.all_cons, List.all_nil, Bool.true_and, Kd.isRo, List.size_toArray, List.toList_toArray, bldV, Nat.reduceLeDiff, Int.reduceMul, Int.reduceAdd, Int.reduceSub, Int.reduceToNat, maxLen_eq, zeros_one, appS_some, appV_n, appV_v, appH_t, appH_f, Kd.isEx, Bool.false_and, partV, Nat.add_zero, Int.toNat_natCast]) | (with_reducible refine condK_dec (fun _ => ?_) (fun _ => ?_)) | (with_reducible refine grd_dec (fun _ => ?_) (fun _ => ?_)) | (with_reducible refine egrd_dec (fun _ => ?_) (fun _ => ?_)))
  refine WpF.mono (ways_collect (A0 := H) (F := F) (A := A) (a := a) (pa := H.nx + 1 + 1 + 1) (pf := H.nx + 1 + 1) (cell := H.nx + 1) rfl hF ha (by (repeat (first | assumption | exact HExt.refl _ | (refine HExt.set ?_ (by first | omega | (simp only [new_nx, set_nx]; omega)) _) | (refine HExt.new ?_ _)))) (by repeat' (first | (simp (disch := first | omega | (decide +kernel) | (repeat (first | assumption | exact HExt.refl _ | (refine HExt.set ?_ (by first | omega | (simp only [new_nx, set_nx]; omega)) _) | (refine HExt.new ?_ _)))) only [↓RD, RU, accW_t, accW_f, isW, ↓putF_get, ↓putF_none, ↓evF_t, ↓evF_c, ↓evF_f, new_nx, set_nx, new_get, set_get, getD_zero, getD_succ, u_not, pop, lop, aop, wop, resL, resV, tupleV, akV, isVal, isCell, Value.cells, List.map_cons, List.map_nil, Bool.not_true, Bool.not_false, Option.map_some, ↓reduceIte, Nat.reduceEqDiff, Nat.reduceAdd, Int.reduceOfNat, Int.reduceNegSucc, reduceCtorEq, List.getElem?_cons_zero, List.getElem?_cons_succ, List.length_cons, List.length_nil, srcR_c, src_n, src_v, src_s, bnd, lenV, capV, Option.isSome_none, Option.isNone_none, Option.isSome_some, Option.isNone_some, Bool.true_or, Bool.false_or, List.take_succ_cons, List.take_zero, List.drop_succ_cons, List.drop_zero, List.cons_append, List.nil_append, List.drop_nil, List.all_cons, List.all_nil, Bool.true_and, Kd.isRo, List.size_toArray, List.toList_toArray, bldV, Nat.reduceLeDiff, Int.reduceMul, Int.reduceAdd, Int.reduceSub, Int.reduceToNat, maxLen_eq, zeros_one, appS_some, appV_n, appV_v, appH_t, appH_f, Kd.isEx, Bool.false_and, partV, Nat.add_zero, Int.toNat_natCast]) | (with_reducible refine condK_dec (fun _ => ?_) (fun _ => ?_)) | (with_reducible refine grd_dec (fun _ => ?_) (fun _ => ?_)) | (with_reducible refine egrd_dec (fun _ => ?_) (fun _ => ?_)))) (by repeat' (first | (simp (disch := first | omega | (decide +kernel) | (repeat (first | assumption | exact HExt.refl _ | (refine HExt.set ?_ (by first | omega | (simp only [new_nx, set_nx]; omega)) _) | (refine HExt.new ?_ _)))) only [↓RD, RU, accW_t, accW_f, isW, ↓putF_get, ↓putF_none, ↓evF_t, ↓evF_c, ↓evF_f, new_nx, set_nx, new_get, set_get, getD_zero, getD_succ, u_not, pop, lop, aop, wop, resL, resV, tupleV, akV, isVal, isCell, Value.cells, List.map_cons, List.map_nil, Bool.not_true, Bool.not_false, Option.map_some, ↓reduceIte, Nat.reduceEqDiff, Nat.reduceAdd, Int.reduceOfNat, Int.reduceNegSucc, reduceCtorEq, List.getElem?_cons_zero, List.getElem?_cons_succ, List.length_cons, List.length_nil, srcR_c, src_n, src_v, src_s, bnd, lenV, capV, Option.isSome_none, Option.isNone_none, Option.isSome_some, Option.isNone_some, Bool.true_or, Bool.false_or, List.take_succ_cons, List.take_zero, List.drop_succ_cons, List.drop_zero, List.cons_append, List.nil_append, List.drop_nil, List.all_cons, List.all_nil, Bool.true_and, Kd.isRo, List.size_toArray, List.toList_toArray, bldV, Nat.reduceLeDiff, Int.reduceMul, Int.reduceAdd, Int.reduceSub, Int.reduceToNat, maxLen_eq, zeros_one, appS_some, appV_n, appV_v, appH_t, appH_f, Kd.isEx, Bool.false_and, partV, Nat.add_zero, Int.toNat_natCast]) | (with_reducible refine condK_dec (fun _ => ?_) (fun _ => ?_)) | (with_reducible refine grd_dec (fun _ => ?_) (fun _ => ?_)) | (with_reducible refine egrd_dec (fun _ => ?_) (fun _ => ?_))); rfl) (by repeat' (first | (simp (disch := first | omega | (decide +kernel) | (repeat (first | assumption | exact HExt.refl _ | (refine HExt.set ?_ (by first | omega | (simp only [new_nx, set_nx]; omega)) _) | (refine HExt.new ?_ _)))) only [↓RD, RU, accW_t, accW_f, isW, ↓putF_get, ↓putF_none, ↓evF_t, ↓evF_c, ↓evF_f, new_nx, set_nx, new_get, set_get, getD_zero, getD_succ, u_not, pop, lop, aop, wop, resL, resV, tupleV, akV, isVal, isCell, Value.cells, List.map_cons, List.map_nil, Bool.not_true, Bool.not_false, Option.map_some, ↓reduceIte, Nat.reduceEqDiff, Nat.reduceAdd, Int.reduceOfNat, Int.reduceNegSucc, reduceCtorEq, List.getElem?_cons_zero, List.getElem?_cons_succ, List.length_cons, List.length_nil, srcR_c, src_n, src_v, src_s, bnd, lenV, capV, Option.isSome_none, Option.isNone_none, Option.isSome_some, Option.isNone_some, Bool.true_or, Bool.false_or, List.take_succ_cons, List.take_zero, List.drop_succ_cons, List.drop_zero, List.cons_append, List.nil_append, List.drop_nil, List.all_cons, List.all_nil, Bool.true_and, Kd.isRo, List.size_toArray, List.toList_toArray, bldV, Nat.reduceLeDiff, Int.reduceMul, Int.reduceAdd, Int.reduceSub, Int.reduceToNat, maxLen_eq, zeros_one, appS_some, appV_n, appV_v, appH_t, appH_f, Kd.isEx, Bool.false_and, partV, Nat.add_zero, Int.toNat_natCast]) | (with_reducible refine condK_dec (fun _ => ?_) (fun _ => ?_)) | (with_reducible refine grd_dec (fun _ => ?_) (fun _ => ?_)) | (with_reducible refine egrd_dec (fun _ => ?_) (fun _ => ?_)))) (by first | omega | (simp only [new_nx, set_nx]; omega)) (by first | omega | (simp only [new_nx, set_nx]; omega)) (by first | omega | (simp only [new_nx, set_nx]; omega)) (by first | omega | (simp only [new_nx, set_nx]; omega)) (by omega) (by omega) (by repeat' (first | (simp (disch := first | omega | (decide +kernel) | (repeat (first | assumption | exact HExt.refl _ | (refine HExt.set ?_ (by first | omega | (simp only [new_nx, set_nx]; omega)) _) | (refine HExt.new ?_ _)))) only [↓RD, RU, accW_t, accW_f, isW, ↓putF_get, ↓putF_none, ↓evF_t, ↓evF_c, ↓evF_f, new_nx, set_nx, new_get, set_get, getD_zero, getD_succ, u_not, pop, lop, aop, wop, resL, resV, tupleV, akV, isVal, isCell, Value.cells, List.map_cons, List.map_nil, Bool.not_true, Bool.not_false, Option.map_some, ↓reduceIte, Nat.reduceEqDiff, Nat.reduceAdd, Int.reduceOfNat, Int.reduceNegSucc, reduceCtorEq, List.getElem?_cons_zero, List.getElem?_cons_succ, List.length_cons, List.length_nil, srcR_c, src_n, src_v, src_s, bnd, lenV, capV, Option.isSome_none, Option.isNone_none, Option.isSome_some, Option.isNone_some, Bool.true_or, Bool.false_or, List.take_succ_cons, List.take_zero, List.drop_succ_cons, List.drop_zero, List.cons_append, List.nil_append, List.drop_nil, List.all_cons, List.all_nil, Bool.true_and, Kd.isRo, List.size_toArray, List.toList_toArray, bldV, Nat.reduceLeDiff, Int.reduceMul, Int.reduceAdd, Int.reduceSub, Int.reduceToNat, maxLen_eq, zeros_one, appS_some, appV_n, appV_v, appH_t, appH_f, Kd.isEx, Bool.false_and, partV, Nat.add_zero, Int.toNat_natCast]) | (with_reducible refine condK_dec (fun _ => ?_) (fun _ => ?_)) | (with_reducible refine grd_dec (fun _ => ?_) (fun _ => ?_)) | (with_reducible refine egrd_dec (fun _ => ?_) (fun _ => ?_))))) fun u K ⟨⟨v, hc, hg⟩, hl, hn, hk⟩ => ?_
  refine (rangeK_some hl (by decide)).2 ?_
  simp only [jumpX]
  have hn' : H.nx + 5 ≤ K.nx := hn
  repeat' (first | (simp (disch := first | omega | (decide +kernel) | (repeat (first | assumption | exact HExt.refl _ | (refine HExt.set ?_ (by first | omega | (simp only [new_nx, set_nx]; omega)) _) | (refine HExt.new ?_ _)))) only [↓RD, RU, accW_t, accW_f, isW, ↓putF_get, ↓putF_none, ↓evF_t, ↓evF_c, ↓evF_f, new_nx, set_nx, new_get, set_get, getD_zero, getD_succ, u_not, pop, lop, aop, wop, resL, resV, tupleV, akV, isVal, isCell, Value.cells, List.map_cons, List.map_nil, Bool.not_true, Bool.not_false, Option.map_some, ↓reduceIte, Nat.reduceEqDiff, Nat.reduceAdd, Int.reduceOfNat, Int.reduceNegSucc, reduceCtorEq, List.getElem?_cons_zero, List.getElem?_cons_succ, List.length_cons, List.length_nil, srcR_c, src_n, src_v, src_s, bnd, lenV, capV, Option.isSome_none, Option.isNone_none, Option.isSome_some, Option.isNone_some, Bool.true_or, Bool.false_or, List.take_succ_cons, List.take_zero, List.drop_succ_cons, List.drop_zero, List.cons_append, List.nil_append, List.drop_nil, List.all_cons, List.all_nil, Bool.true_and, Kd.isRo, List.size_toArray, List.toList_toArray, bldV, Nat.reduceLeDiff, Int.reduceMul, Int.reduceAdd, Int.reduceSub, Int.reduceToNat, maxLen_eq, zeros_one, appS_some, appV_n, appV_v, appH_t, appH_f, Kd.isEx, Bool.false_and, partV, Nat.add_zero, Int.toNat_natCast, hc]) | (with_reducible refine condK_dec (fun _ => ?_) (fun _ => ?_)) | (with_reducible refine grd_dec (fun _ => ?_) (fun _ => ?_)) | (with_reducible refine egrd_dec (fun _ => ?_) (fun _ => ?_)))
  refine ⟨⟨by simp only [set_nx]; omega, fun x hx => ?_⟩, Grw.low (hg.mv (fun x hx hx2 => ?_) (Nat.le_refl _)) ?_⟩
  · have hkx := hk x (by first | omega | (simp only [new_nx, set_nx]; omega)) (by omega)
    rw [set_get, if_neg (by omega), hkx]
    repeat' (first | (simp (disch := first | omega | (decide +kernel) | (repeat (first | assumption | exact HExt.refl _ | (refine HExt.set ?_ (by first | omega | (simp only [new_nx, set_nx]; omega)) _) | (refine HExt.new ?_ _)))) only [↓RD, RU, accW_t, accW_f, isW, ↓putF_get, ↓putF_none, ↓evF_t, ↓evF_c, ↓evF_f, new_nx, set_nx, new_get, set_get, getD_zero, getD_succ, u_not, pop, lop, aop, wop, resL, resV, tupleV, akV, isVal, isCell, Value.cells, List.map_cons, List.map_nil, Bool.not_true, Bool.not_false, Option.map_some, ↓reduceIte, Nat.reduceEqDiff, Nat.reduceAdd, Int.reduceOfNat, Int.reduceNegSucc, reduceCtorEq, List.getElem?_cons_zero, List.getElem?_cons_succ, List.length_cons, List.length_nil, srcR_c, src_n, src_v, src_s, bnd, lenV, capV, Option.isSome_none, Option.isNone_none, Option.isSome_some, Option.isNone_some, Bool.true_or, Bool.false_or, List.take_succ_cons, List.take_zero, List.drop_succ_cons, List.drop_zero, List.cons_append, List.nil_append, List.drop_nil, List.all_cons, List.all_nil, Bool.true_and, Kd.isRo, List.size_toArray, List.toList_toArray, bldV, Nat.reduceLeDiff, Int.reduceMul, Int.reduceAdd, Int.reduceSub, Int.reduceToNat, maxLen_eq, zeros_one, appS_some, appV_n, appV_v, appH_t, appH_f, Kd.isEx, Bool.false_and, partV, Nat.add_zero, Int.toNat_natCast]) | (with_reducible refine condK_dec (fun _ => ?_) (fun _ => ?_)) | (with_reducible refine grd_dec (fun _ => ?_) (fun _ => ?_)) | (with_reducible refine egrd_dec (fun _ => ?_) (fun _ => ?_)))
  · have hx' : H.nx + 5 ≤ x := hx
    rw [set_get, if_neg (by omega)]
  · show H.nx ≤ H.nx + 5
    omega
end Can
end Go.Proofs.Ytkomlcpofchjfaa
