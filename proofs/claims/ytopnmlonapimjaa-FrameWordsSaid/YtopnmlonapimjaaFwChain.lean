/- Frame: the frames that called one another: the program and the document. -/
import Derived.Test.YtopnmlonapimjaaFwRSet
namespace Go.Proofs.Ytopnmlonapimjaa
namespace Can
open Go Go.RowKit
set_option linter.unusedSimpArgs false
set_option linter.unusedVariables false
set_option maxRecDepth 4000
def nxt (ws : List Int) (f : Int) : Int := wd ws (f / 4 + 2 + 1).toNat
inductive ChF (ws : List Int) (top : Int) : List Int → Int → List Int → Prop
  | stop {l f} : (isFr ws top f = true → f ∈ l) → ChF ws top l f l
  | step {l f l'} : isFr ws top f = true → f ∉ l → ChF ws top (l ++ [f]) (nxt ws f) l' → ChF ws top l f l'
theorem ChF.det {ws : List Int} {top : Int} {l l1 l2 : List Int} {f : Int} (h : ChF ws top l f l1) : ChF ws top l f l2 → l1 = l2 := by
  induction h with
  | stop h => intro k; cases k with
    | stop _ => rfl
    | step h1 h2 _ => exact absurd (h h1) h2
  | step h1 h2 _ ih => intro k; cases k with
    | stop k1 => exact absurd (k1 h1) h2
    | step _ _ k => exact ih k
theorem ChF.len {ws : List Int} {top : Int} {l l1 : List Int} {f : Int} (h : ChF ws top l f l1) : l.length ≤ l1.length := by
  induction h with
  | stop h => exact Nat.le_refl _
  | step h1 h2 _ ih => simp at ih; omega
theorem ChF.ne {ws : List Int} {top : Int} {l1 : List Int} {f : Int} (h : ChF ws top [] f l1) : l1 = [] ↔ isFr ws top f = false := by
  cases h with
  | stop h => exact ⟨fun _ => by
      cases hf : isFr ws top f with
      | false => rfl
      | true => exact absurd (h hf) (by simp), fun _ => rfl⟩
  | step h1 h2 h3 => exact ⟨fun e => by have := h3.len; rw [e] at this; simp at this, fun e => by rw [h1] at e; cases e⟩
theorem len_le : ∀ {S ls : List Nat}, S.Nodup → (∀ a ∈ S, a ∈ ls) → S.length ≤ ls.length
  | [], ls, _, _ => by simp
  | a :: S, ls, hs, h => by
    have hn := List.nodup_cons.1 hs
    have ha := h a (List.mem_cons_self ..)
    have := len_le (S := S) (ls := ls.erase a) hn.2 fun b hb => (List.mem_erase_of_ne (fun e => hn.1 (by rw [← e]; exact hb))).2 (h b (List.mem_cons_of_mem _ hb))
    rw [List.length_erase_of_mem ha] at this
    have : 0 < ls.length := List.length_pos_of_mem ha
    simp only [List.length_cons]; omega
theorem kind4 {w : Int} (h : kindF w = 0) : w % 4 = 0 := by
  unfold kindF at h
  split at h
  · assumption
  · split at h
    · split at h <;> cases h
    · split at h
      · split at h <;> cases h
      · cases h
theorem chn_len {ws : List Int} {top : Int} {l : List Int} (hn : l.Nodup) (hf : ∀ f ∈ l, isFr ws top f = true) : l.length ≤ 1048576 := by
  have h1 : (l.map fun f => (f / 4).toNat).Nodup := by
    rw [List.nodup_iff_pairwise_ne, List.pairwise_map]
    refine List.Pairwise.imp_of_mem (fun {x y} hx hy hxy => ?_) hn
    have kx := (isFr_parts (hf x hx)).1
    have ky := (isFr_parts (hf y hy)).1
    have a1 := kind0 kx
    have a2 := kind0 ky
    have a3 := kind4 kx
    have a4 := kind4 ky
    omega
  have h2 := len_le (ls := List.range 1048576) h1 fun a ha => by
    obtain ⟨f, hfl, rfl⟩ := List.mem_map.1 ha
    have := kind0 (isFr_parts (hf f hfl)).1
    rw [List.mem_range]; omega
  simpa using h2
theorem nxt_u64 {H : CH} {p : Option Addr} {c : Nat} {ws : List Int} (hw : Words H p c ws) (f : Int) : 0 ≤ nxt ws f ∧ nxt ws f < 18446744073709551616 := by
  unfold nxt wd
  rw [List.getD_eq_getElem?_getD]
  cases h : ws[(f / 4 + 2 + 1).toNat]? with
  | none => simp
  | some x => exact u64_wf (words_wf hw x (List.mem_of_getElem? h))
def IdxOut (H K : CH) (n : Int) (xs : List Int) (v : Value) : Prop := K = H ∧ ∃ r : Int, v = .int .i64 r ∧ (0 ≤ r ↔ n ∈ xs)
theorem index_wp {H : CH} {p : Option Addr} {c : Nat} {xs : List Int} (hx : SlAt 1 (CInt .u64) H p c xs) (n : Int) (h1 : xs.length ≤ 9223372036854775806) :
    WpF (tblG Try.prog LG GG) 60 [.slice p xs.length c, .int .u64 n] H fun v K => IdxOut H K n xs v := by
  refine wpF_rG (by rfl) (by kernel_rfl) ?_; (conv in (rF _ _).body => reduce); (conv in (rF _ _).res => reduce)
  repeat' (first | (simp (disch := first | omega | (decide +kernel) | (repeat first | assumption | exact HExt.refl _ | refine HExt.set ?_ (by first | omega | (simp only [new_nx, set_nx]; omega)) _ | refine HExt.new ?_ _)) only [↓RD, RU, accW_t, accW_f, isW, ↓putF_get, ↓putF_none, ↓evF_t, ↓evF_c, ↓evF_f, new_nx, set_nx, new_get, set_get, getD_zero, getD_succ, u_not, pop, lop, aop, wop, resL, resV, tupleV, akV, isVal, isCell, Value.cells, ρ0, ρ1, ρ2, ρ3, ρ4, ↓reduceIte, Nat.reduceEqDiff, Nat.reduceAdd, Int.reduceOfNat, Int.reduceNegSucc, reduceCtorEq, ρ5, ρ6, ρ7, ρ8, srcR_c, src_n, src_v, src_s, bnd, lenV, capV, ρ9, ρ10, ρ11, ρ12, ρ13, ρ14, ρ15, ρ16, ρ17, ρ18, ρ19, ρ20, ρ21, ρ22, ρ23, ρ24, Kd.isRo, ρ25, ρ26, bldV, Nat.reduceLeDiff, Int.reduceMul, Int.reduceAdd, Int.reduceSub, Int.reduceToNat, maxLen_eq, zeros_one, appS_some, appV_n, appV_v, appH_t, appH_f, Kd.isEx, ρ27, partV, ρ28, ρ29]) | (with_reducible first | refine condK_dec (fun _ => ?_) fun _ => ?_ | refine grd_dec (fun _ => ?_) fun _ => ?_ | refine egrd_dec (fun _ => ?_) fun _ => ?_))
  refine loop_w (fun m fr K => ∃ i : Nat, m = xs.length - i ∧ i ≤ xs.length ∧ fr 8 = .int .i64 (i : Int) ∧ K = H ∧ n ∉ xs.take i) (n := xs.length) ⟨0, rfl, Nat.zero_le _, by (repeat' (first | (simp (disch := first | omega | (decide +kernel) | (repeat first | assumption | exact HExt.refl _ | refine HExt.set ?_ (by first | omega | (simp only [new_nx, set_nx]; omega)) _ | refine HExt.new ?_ _)) only [↓RD, RU, accW_t, accW_f, isW, ↓putF_get, ↓putF_none, ↓evF_t, ↓evF_c, ↓evF_f, new_nx, set_nx, new_get, set_get, getD_zero, getD_succ, u_not, pop, lop, aop, wop, resL, resV, tupleV, akV, isVal, isCell, Value.cells, ρ0, ρ1, ρ2, ρ3, ρ4, ↓reduceIte, Nat.reduceEqDiff, Nat.reduceAdd, Int.reduceOfNat, Int.reduceNegSucc, reduceCtorEq, ρ5, ρ6, ρ7, ρ8, srcR_c, src_n, src_v, src_s, bnd, lenV, capV, ρ9, ρ10, ρ11, ρ12, ρ13, ρ14, ρ15, ρ16, ρ17, ρ18, ρ19, ρ20, ρ21, ρ22, ρ23, ρ24, Kd.isRo, ρ25, ρ26, bldV, Nat.reduceLeDiff, Int.reduceMul, Int.reduceAdd, Int.reduceSub, Int.reduceToNat, maxLen_eq, zeros_one, appS_some, appV_n, appV_v, appH_t, appH_f, Kd.isEx, ρ27, partV, ρ28, ρ29]) | (with_reducible first | refine condK_dec (fun _ => ?_) fun _ => ?_ | refine grd_dec (fun _ => ?_) fun _ => ?_ | refine egrd_dec (fun _ => ?_) fun _ => ?_))); all_goals rfl, rfl, by simp⟩ ?_
  rintro m fr K ⟨i, rfl, hi, f8, rfl, hno⟩ hag
  by_cases hil : i < xs.length
  case neg =>
    have : i = xs.length := by omega
    subst this
    rw [List.take_length] at hno
    repeat' (first | (simp (disch := first | omega | (decide +kernel) | (repeat first | assumption | exact HExt.refl _ | refine HExt.set ?_ (by first | omega | (simp only [new_nx, set_nx]; omega)) _ | refine HExt.new ?_ _)) only [↓RD, RU, accW_t, accW_f, isW, ↓putF_get, ↓putF_none, ↓evF_t, ↓evF_c, ↓evF_f, new_nx, set_nx, new_get, set_get, getD_zero, getD_succ, u_not, pop, lop, aop, wop, resL, resV, tupleV, akV, isVal, isCell, Value.cells, ρ0, ρ1, ρ2, ρ3, ρ4, ↓reduceIte, Nat.reduceEqDiff, Nat.reduceAdd, Int.reduceOfNat, Int.reduceNegSucc, reduceCtorEq, ρ5, ρ6, ρ7, ρ8, srcR_c, src_n, src_v, src_s, bnd, lenV, capV, ρ9, ρ10, ρ11, ρ12, ρ13, ρ14, ρ15, ρ16, ρ17, ρ18, ρ19, ρ20, ρ21, ρ22, ρ23, ρ24, Kd.isRo, ρ25, ρ26, bldV, Nat.reduceLeDiff, Int.reduceMul, Int.reduceAdd, Int.reduceSub, Int.reduceToNat, maxLen_eq, zeros_one, appS_some, appV_n, appV_v, appH_t, appH_f, Kd.isEx, ρ27, partV, ρ28, ρ29, f8, hag]) | (with_reducible first | refine condK_dec (fun _ => ?_) fun _ => ?_ | refine grd_dec (fun _ => ?_) fun _ => ?_ | refine egrd_dec (fun _ => ?_) fun _ => ?_))
    all_goals exact ⟨rfl, _, rfl, ⟨fun h => absurd h (by decide), fun h => absurd h hno⟩⟩
  obtain ⟨l, o, os, e, kd, rfl, hl1, hc, hm, hob, hol, hos, hwf⟩ := hx.ints (by omega)
  have hg := hos i hil
  have e0 : xs.getD i 0 = xs[i] := by rw [List.getD_eq_getElem?_getD, List.getElem?_eq_getElem hil]; rfl
  by_cases hn : n = xs.getD i 0
  · rw [← hn] at hg
    have hmem : n ∈ xs := by rw [hn, e0]; exact List.getElem_mem hil
    repeat' (first | (simp (disch := first | omega | (decide +kernel) | (repeat first | assumption | exact HExt.refl _ | refine HExt.set ?_ (by first | omega | (simp only [new_nx, set_nx]; omega)) _ | refine HExt.new ?_ _)) only [↓RD, RU, accW_t, accW_f, isW, ↓putF_get, ↓putF_none, ↓evF_t, ↓evF_c, ↓evF_f, new_nx, set_nx, new_get, set_get, getD_zero, getD_succ, u_not, pop, lop, aop, wop, resL, resV, tupleV, akV, isVal, isCell, Value.cells, ρ0, ρ1, ρ2, ρ3, ρ4, ↓reduceIte, Nat.reduceEqDiff, Nat.reduceAdd, Int.reduceOfNat, Int.reduceNegSucc, reduceCtorEq, ρ5, ρ6, ρ7, ρ8, srcR_c, src_n, src_v, src_s, bnd, lenV, capV, ρ9, ρ10, ρ11, ρ12, ρ13, ρ14, ρ15, ρ16, ρ17, ρ18, ρ19, ρ20, ρ21, ρ22, ρ23, ρ24, Kd.isRo, ρ25, ρ26, bldV, Nat.reduceLeDiff, Int.reduceMul, Int.reduceAdd, Int.reduceSub, Int.reduceToNat, maxLen_eq, zeros_one, appS_some, appV_n, appV_v, appH_t, appH_f, Kd.isEx, ρ27, partV, ρ28, ρ29, f8, hag, hob, hg]) | (with_reducible first | refine condK_dec (fun _ => ?_) fun _ => ?_ | refine grd_dec (fun _ => ?_) fun _ => ?_ | refine egrd_dec (fun _ => ?_) fun _ => ?_))
    all_goals exact ⟨rfl, _, rfl, ⟨fun _ => hmem, fun _ => by omega⟩⟩
  · repeat' (first | (simp (disch := first | omega | (decide +kernel) | (repeat first | assumption | exact HExt.refl _ | refine HExt.set ?_ (by first | omega | (simp only [new_nx, set_nx]; omega)) _ | refine HExt.new ?_ _)) only [↓RD, RU, accW_t, accW_f, isW, ↓putF_get, ↓putF_none, ↓evF_t, ↓evF_c, ↓evF_f, new_nx, set_nx, new_get, set_get, getD_zero, getD_succ, u_not, pop, lop, aop, wop, resL, resV, tupleV, akV, isVal, isCell, Value.cells, ρ0, ρ1, ρ2, ρ3, ρ4, ↓reduceIte, Nat.reduceEqDiff, Nat.reduceAdd, Int.reduceOfNat, Int.reduceNegSucc, reduceCtorEq, ρ5, ρ6, ρ7, ρ8, srcR_c, src_n, src_v, src_s, bnd, lenV, capV, ρ9, ρ10, ρ11, ρ12, ρ13, ρ14, ρ15, ρ16, ρ17, ρ18, ρ19, ρ20, ρ21, ρ22, ρ23, ρ24, Kd.isRo, ρ25, ρ26, bldV, Nat.reduceLeDiff, Int.reduceMul, Int.reduceAdd, Int.reduceSub, Int.reduceToNat, maxLen_eq, zeros_one, appS_some, appV_n, appV_v, appH_t, appH_f, Kd.isEx, ρ27, partV, ρ28, ρ29, f8, hag, hob, hg]) | (with_reducible first | refine condK_dec (fun _ => ?_) fun _ => ?_ | refine grd_dec (fun _ => ?_) fun _ => ?_ | refine egrd_dec (fun _ => ?_) fun _ => ?_))
    refine ⟨_, by omega, i + 1, rfl, by omega, rfl, fun h => ?_⟩
    rw [List.take_add_one, List.getElem?_eq_getElem hil] at h
    rcases List.mem_append.1 h with h | h
    · exact hno h
    · simp at h
      exact hn (by rw [e0]; exact h)
theorem contains_wp {H : CH} {p : Option Addr} {c : Nat} {xs : List Int} (hx : SlAt 1 (CInt .u64) H p c xs) (n : Int) (h1 : xs.length ≤ 9223372036854775806) :
    WpF (tblG Try.prog LG GG) 59 [.slice p xs.length c, .int .u64 n] H fun v K => v = .bool (decide (n ∈ xs)) ∧ K = H := by
  refine wpF_rG (by rfl) (by kernel_rfl) ?_; (conv in (rF _ _).body => reduce); (conv in (rF _ _).res => reduce)
  repeat' (first | (simp (disch := first | omega | (decide +kernel) | (repeat first | assumption | exact HExt.refl _ | refine HExt.set ?_ (by first | omega | (simp only [new_nx, set_nx]; omega)) _ | refine HExt.new ?_ _)) only [↓RD, RU, accW_t, accW_f, isW, ↓putF_get, ↓putF_none, ↓evF_t, ↓evF_c, ↓evF_f, new_nx, set_nx, new_get, set_get, getD_zero, getD_succ, u_not, pop, lop, aop, wop, resL, resV, tupleV, akV, isVal, isCell, Value.cells, ρ0, ρ1, ρ2, ρ3, ρ4, ↓reduceIte, Nat.reduceEqDiff, Nat.reduceAdd, Int.reduceOfNat, Int.reduceNegSucc, reduceCtorEq, ρ5, ρ6, ρ7, ρ8, srcR_c, src_n, src_v, src_s, bnd, lenV, capV, ρ9, ρ10, ρ11, ρ12, ρ13, ρ14, ρ15, ρ16, ρ17, ρ18, ρ19, ρ20, ρ21, ρ22, ρ23, ρ24, Kd.isRo, ρ25, ρ26, bldV, Nat.reduceLeDiff, Int.reduceMul, Int.reduceAdd, Int.reduceSub, Int.reduceToNat, maxLen_eq, zeros_one, appS_some, appV_n, appV_v, appH_t, appH_f, Kd.isEx, ρ27, partV, ρ28, ρ29]) | (with_reducible first | refine condK_dec (fun _ => ?_) fun _ => ?_ | refine grd_dec (fun _ => ?_) fun _ => ?_ | refine egrd_dec (fun _ => ?_) fun _ => ?_))
  refine (index_wp hx n h1).mono fun v K ⟨hK, r, hv, hr⟩ => ?_
  subst hv hK
  by_cases hn : n ∈ xs
  · have := hr.2 hn
    rw [decide_eq_true hn]
    repeat' (first | (simp (disch := first | omega | (decide +kernel) | (repeat first | assumption | exact HExt.refl _ | refine HExt.set ?_ (by first | omega | (simp only [new_nx, set_nx]; omega)) _ | refine HExt.new ?_ _)) only [↓RD, RU, accW_t, accW_f, isW, ↓putF_get, ↓putF_none, ↓evF_t, ↓evF_c, ↓evF_f, new_nx, set_nx, new_get, set_get, getD_zero, getD_succ, u_not, pop, lop, aop, wop, resL, resV, tupleV, akV, isVal, isCell, Value.cells, ρ0, ρ1, ρ2, ρ3, ρ4, ↓reduceIte, Nat.reduceEqDiff, Nat.reduceAdd, Int.reduceOfNat, Int.reduceNegSucc, reduceCtorEq, ρ5, ρ6, ρ7, ρ8, srcR_c, src_n, src_v, src_s, bnd, lenV, capV, ρ9, ρ10, ρ11, ρ12, ρ13, ρ14, ρ15, ρ16, ρ17, ρ18, ρ19, ρ20, ρ21, ρ22, ρ23, ρ24, Kd.isRo, ρ25, ρ26, bldV, Nat.reduceLeDiff, Int.reduceMul, Int.reduceAdd, Int.reduceSub, Int.reduceToNat, maxLen_eq, zeros_one, appS_some, appV_n, appV_v, appH_t, appH_f, Kd.isEx, ρ27, partV, ρ28, ρ29]) | (with_reducible first | refine condK_dec (fun _ => ?_) fun _ => ?_ | refine grd_dec (fun _ => ?_) fun _ => ?_ | refine egrd_dec (fun _ => ?_) fun _ => ?_))
  · have : r < 0 := by
      rcases Int.lt_or_le r 0 with h | h
      · exact h
      · exact absurd (hr.1 h) hn
    rw [decide_eq_false hn]
    repeat' (first | (simp (disch := first | omega | (decide +kernel) | (repeat first | assumption | exact HExt.refl _ | refine HExt.set ?_ (by first | omega | (simp only [new_nx, set_nx]; omega)) _ | refine HExt.new ?_ _)) only [↓RD, RU, accW_t, accW_f, isW, ↓putF_get, ↓putF_none, ↓evF_t, ↓evF_c, ↓evF_f, new_nx, set_nx, new_get, set_get, getD_zero, getD_succ, u_not, pop, lop, aop, wop, resL, resV, tupleV, akV, isVal, isCell, Value.cells, ρ0, ρ1, ρ2, ρ3, ρ4, ↓reduceIte, Nat.reduceEqDiff, Nat.reduceAdd, Int.reduceOfNat, Int.reduceNegSucc, reduceCtorEq, ρ5, ρ6, ρ7, ρ8, srcR_c, src_n, src_v, src_s, bnd, lenV, capV, ρ9, ρ10, ρ11, ρ12, ρ13, ρ14, ρ15, ρ16, ρ17, ρ18, ρ19, ρ20, ρ21, ρ22, ρ23, ρ24, Kd.isRo, ρ25, ρ26, bldV, Nat.reduceLeDiff, Int.reduceMul, Int.reduceAdd, Int.reduceSub, Int.reduceToNat, maxLen_eq, zeros_one, appS_some, appV_n, appV_v, appH_t, appH_f, Kd.isEx, ρ27, partV, ρ28, ρ29]) | (with_reducible first | refine condK_dec (fun _ => ?_) fun _ => ?_ | refine grd_dec (fun _ => ?_) fun _ => ?_ | refine egrd_dec (fun _ => ?_) fun _ => ?_))
/-- What Chain answers. -/
def ChOut (H K : CH) (ws : List Int) (top f : Int) (v : Value) : Prop := HExt H K ∧ ∃ l' v', ChF ws top [] f l' ∧ Grw H 29 1 (ints .u64) K v' l' ∧ (∀ x ∈ l', (Lit.int .u64 x).wf = true) ∧ l'.length ≤ 1048576 ∧ v = .tuple #[v', .int .i64 (if isFr ws top f = true then 0 else 1)]
set_option maxHeartbeats 1000000 in
theorem chain_wp {H : CH} {p : Option Addr} {c : Nat} {ws : List Int} (hw : Words H p c ws) (top f0 : Int) (h1 : -9223372036854775808 ≤ top ∧ top ≤ 9223372036854775807) (h3 : 0 ≤ f0 ∧ f0 < 18446744073709551616) (h5 : ws.length ≤ 9223372036854775807) :
    WpF (tblG Try.prog LG GG) 42 [.agg #[.slice p ws.length c, .int .i64 top], .int .u64 f0] H fun v K => ChOut H K ws top f0 v := by
  refine wpF_rG (by rfl) (by kernel_rfl) ?_; (conv in (rF _ _).body => reduce); (conv in (rF _ _).res => reduce)
  repeat' (first | (simp (disch := first | omega | (decide +kernel) | (repeat first | assumption | exact HExt.refl _ | refine HExt.set ?_ (by first | omega | (simp only [new_nx, set_nx]; omega)) _ | refine HExt.new ?_ _)) only [↓RD, RU, accW_t, accW_f, isW, ↓putF_get, ↓putF_none, ↓evF_t, ↓evF_c, ↓evF_f, new_nx, set_nx, new_get, set_get, getD_zero, getD_succ, u_not, pop, lop, aop, wop, resL, resV, tupleV, akV, isVal, isCell, Value.cells, ρ0, ρ1, ρ2, ρ3, ρ4, ↓reduceIte, Nat.reduceEqDiff, Nat.reduceAdd, Int.reduceOfNat, Int.reduceNegSucc, reduceCtorEq, ρ5, ρ6, ρ7, ρ8, srcR_c, src_n, src_v, src_s, bnd, lenV, capV, ρ9, ρ10, ρ11, ρ12, ρ13, ρ14, ρ15, ρ16, ρ17, ρ18, ρ19, ρ20, ρ21, ρ22, ρ23, ρ24, Kd.isRo, ρ25, ρ26, bldV, Nat.reduceLeDiff, Int.reduceMul, Int.reduceAdd, Int.reduceSub, Int.reduceToNat, maxLen_eq, zeros_one, appS_some, appV_n, appV_v, appH_t, appH_f, Kd.isEx, ρ27, partV, ρ28, ρ29]) | (with_reducible first | refine condK_dec (fun _ => ?_) fun _ => ?_ | refine grd_dec (fun _ => ?_) fun _ => ?_ | refine egrd_dec (fun _ => ?_) fun _ => ?_))
  obtain ⟨K0, hK0⟩ : ∃ K0, K0 = (H.new (.cells [.slice p ws.length c, .int .i64 top] 24 .ex)) := ⟨_, rfl⟩
  have hn0 : K0.nx = H.nx + 1 := by rw [hK0]; rfl
  have hE0 : HExt H K0 := by rw [hK0]; (repeat (first | assumption | exact HExt.refl _ | (refine HExt.set ?_ (by first | omega | (simp only [new_nx, set_nx]; omega)) _) | (refine HExt.new ?_ _)))
  have hb0 : K0.ob H.nx = .cells [.slice p ws.length c, .int .i64 top] 24 .ex := by rw [hK0]; repeat' (first | (simp (disch := first | omega | (decide +kernel) | (repeat first | assumption | exact HExt.refl _ | refine HExt.set ?_ (by first | omega | (simp only [new_nx, set_nx]; omega)) _ | refine HExt.new ?_ _)) only [↓RD, RU, accW_t, accW_f, isW, ↓putF_get, ↓putF_none, ↓evF_t, ↓evF_c, ↓evF_f, new_nx, set_nx, new_get, set_get, getD_zero, getD_succ, u_not, pop, lop, aop, wop, resL, resV, tupleV, akV, isVal, isCell, Value.cells, ρ0, ρ1, ρ2, ρ3, ρ4, ↓reduceIte, Nat.reduceEqDiff, Nat.reduceAdd, Int.reduceOfNat, Int.reduceNegSucc, reduceCtorEq, ρ5, ρ6, ρ7, ρ8, srcR_c, src_n, src_v, src_s, bnd, lenV, capV, ρ9, ρ10, ρ11, ρ12, ρ13, ρ14, ρ15, ρ16, ρ17, ρ18, ρ19, ρ20, ρ21, ρ22, ρ23, ρ24, Kd.isRo, ρ25, ρ26, bldV, Nat.reduceLeDiff, Int.reduceMul, Int.reduceAdd, Int.reduceSub, Int.reduceToNat, maxLen_eq, zeros_one, appS_some, appV_n, appV_v, appH_t, appH_f, Kd.isEx, ρ27, partV, ρ28, ρ29]) | (with_reducible first | refine condK_dec (fun _ => ?_) fun _ => ?_ | refine grd_dec (fun _ => ?_) fun _ => ?_ | refine egrd_dec (fun _ => ?_) fun _ => ?_))
  rw [← hK0]
  refine (flook_wp (hw.good hE0) top f0 h1 h3 h5).mono fun v K1 ⟨hx1, x, y, hv, hy⟩ => ?_
  subst hv
  have hE1 := hE0.trans hx1
  have hn1 := hx1.nx
  cases hf0 : isFr ws top f0 with
  | false =>
    repeat' (first | (simp (disch := first | omega | (decide +kernel) | (repeat first | assumption | exact HExt.refl _ | refine HExt.set ?_ (by first | omega | (simp only [new_nx, set_nx]; omega)) _ | refine HExt.new ?_ _)) only [↓RD, RU, accW_t, accW_f, isW, ↓putF_get, ↓putF_none, ↓evF_t, ↓evF_c, ↓evF_f, new_nx, set_nx, new_get, set_get, getD_zero, getD_succ, u_not, pop, lop, aop, wop, resL, resV, tupleV, akV, isVal, isCell, Value.cells, ρ0, ρ1, ρ2, ρ3, ρ4, ↓reduceIte, Nat.reduceEqDiff, Nat.reduceAdd, Int.reduceOfNat, Int.reduceNegSucc, reduceCtorEq, ρ5, ρ6, ρ7, ρ8, srcR_c, src_n, src_v, src_s, bnd, lenV, capV, ρ9, ρ10, ρ11, ρ12, ρ13, ρ14, ρ15, ρ16, ρ17, ρ18, ρ19, ρ20, ρ21, ρ22, ρ23, ρ24, Kd.isRo, ρ25, ρ26, bldV, Nat.reduceLeDiff, Int.reduceMul, Int.reduceAdd, Int.reduceSub, Int.reduceToNat, maxLen_eq, zeros_one, appS_some, appV_n, appV_v, appH_t, appH_f, Kd.isEx, ρ27, partV, ρ28, ρ29]) | (with_reducible first | refine condK_dec (fun _ => ?_) fun _ => ?_ | refine grd_dec (fun _ => ?_) fun _ => ?_ | refine egrd_dec (fun _ => ?_) fun _ => ?_))
    all_goals exact ⟨hE1, [], _, .stop (fun h => by rw [hf0] at h; cases h), .nil, fun x hx => (by cases hx), by decide, by rw [hf0]; rfl⟩
  | true =>
  have hy0 := hy hf0
  repeat' (first | (simp (disch := first | omega | (decide +kernel) | (repeat first | assumption | exact HExt.refl _ | refine HExt.set ?_ (by first | omega | (simp only [new_nx, set_nx]; omega)) _ | refine HExt.new ?_ _)) only [↓RD, RU, accW_t, accW_f, isW, ↓putF_get, ↓putF_none, ↓evF_t, ↓evF_c, ↓evF_f, new_nx, set_nx, new_get, set_get, getD_zero, getD_succ, u_not, pop, lop, aop, wop, resL, resV, tupleV, akV, isVal, isCell, Value.cells, ρ0, ρ1, ρ2, ρ3, ρ4, ↓reduceIte, Nat.reduceEqDiff, Nat.reduceAdd, Int.reduceOfNat, Int.reduceNegSucc, reduceCtorEq, ρ5, ρ6, ρ7, ρ8, srcR_c, src_n, src_v, src_s, bnd, lenV, capV, ρ9, ρ10, ρ11, ρ12, ρ13, ρ14, ρ15, ρ16, ρ17, ρ18, ρ19, ρ20, ρ21, ρ22, ρ23, ρ24, Kd.isRo, ρ25, ρ26, bldV, Nat.reduceLeDiff, Int.reduceMul, Int.reduceAdd, Int.reduceSub, Int.reduceToNat, maxLen_eq, zeros_one, appS_some, appV_n, appV_v, appH_t, appH_f, Kd.isEx, ρ27, partV, ρ28, ρ29]) | (with_reducible first | refine condK_dec (fun _ => ?_) fun _ => ?_ | refine grd_dec (fun _ => ?_) fun _ => ?_ | refine egrd_dec (fun _ => ?_) fun _ => ?_))
  refine loop_w (fun m fr K => ∃ (l : List Int) (f a : Int) (v : Value), m = 1048577 - l.length ∧ fr 1 = .int .u64 f ∧ fr 6 = .int .i64 a ∧ fr 8 = .bool (isFr ws top f) ∧ fr 9 = v ∧ (isFr ws top f = true → a = f / 4) ∧ (0 ≤ f ∧ f < 18446744073709551616) ∧ HExt K0 K ∧ Grw K0 29 1 (ints .u64) K v l ∧ l.Nodup ∧ (∀ x ∈ l, isFr ws top x = true) ∧ (∀ x ∈ l, (Lit.int .u64 x).wf = true) ∧ (∀ l', ChF ws top l f l' → ChF ws top [] f0 l')) (n := 1048577)
    ⟨[], f0, x, _, rfl, by (repeat' (first | (simp (disch := first | omega | (decide +kernel) | (repeat first | assumption | exact HExt.refl _ | refine HExt.set ?_ (by first | omega | (simp only [new_nx, set_nx]; omega)) _ | refine HExt.new ?_ _)) only [↓RD, RU, accW_t, accW_f, isW, ↓putF_get, ↓putF_none, ↓evF_t, ↓evF_c, ↓evF_f, new_nx, set_nx, new_get, set_get, getD_zero, getD_succ, u_not, pop, lop, aop, wop, resL, resV, tupleV, akV, isVal, isCell, Value.cells, ρ0, ρ1, ρ2, ρ3, ρ4, ↓reduceIte, Nat.reduceEqDiff, Nat.reduceAdd, Int.reduceOfNat, Int.reduceNegSucc, reduceCtorEq, ρ5, ρ6, ρ7, ρ8, srcR_c, src_n, src_v, src_s, bnd, lenV, capV, ρ9, ρ10, ρ11, ρ12, ρ13, ρ14, ρ15, ρ16, ρ17, ρ18, ρ19, ρ20, ρ21, ρ22, ρ23, ρ24, Kd.isRo, ρ25, ρ26, bldV, Nat.reduceLeDiff, Int.reduceMul, Int.reduceAdd, Int.reduceSub, Int.reduceToNat, maxLen_eq, zeros_one, appS_some, appV_n, appV_v, appH_t, appH_f, Kd.isEx, ρ27, partV, ρ28, ρ29]) | (with_reducible first | refine condK_dec (fun _ => ?_) fun _ => ?_ | refine grd_dec (fun _ => ?_) fun _ => ?_ | refine egrd_dec (fun _ => ?_) fun _ => ?_))); all_goals rfl, by (repeat' (first | (simp (disch := first | omega | (decide +kernel) | (repeat first | assumption | exact HExt.refl _ | refine HExt.set ?_ (by first | omega | (simp only [new_nx, set_nx]; omega)) _ | refine HExt.new ?_ _)) only [↓RD, RU, accW_t, accW_f, isW, ↓putF_get, ↓putF_none, ↓evF_t, ↓evF_c, ↓evF_f, new_nx, set_nx, new_get, set_get, getD_zero, getD_succ, u_not, pop, lop, aop, wop, resL, resV, tupleV, akV, isVal, isCell, Value.cells, ρ0, ρ1, ρ2, ρ3, ρ4, ↓reduceIte, Nat.reduceEqDiff, Nat.reduceAdd, Int.reduceOfNat, Int.reduceNegSucc, reduceCtorEq, ρ5, ρ6, ρ7, ρ8, srcR_c, src_n, src_v, src_s, bnd, lenV, capV, ρ9, ρ10, ρ11, ρ12, ρ13, ρ14, ρ15, ρ16, ρ17, ρ18, ρ19, ρ20, ρ21, ρ22, ρ23, ρ24, Kd.isRo, ρ25, ρ26, bldV, Nat.reduceLeDiff, Int.reduceMul, Int.reduceAdd, Int.reduceSub, Int.reduceToNat, maxLen_eq, zeros_one, appS_some, appV_n, appV_v, appH_t, appH_f, Kd.isEx, ρ27, partV, ρ28, ρ29]) | (with_reducible first | refine condK_dec (fun _ => ?_) fun _ => ?_ | refine grd_dec (fun _ => ?_) fun _ => ?_ | refine egrd_dec (fun _ => ?_) fun _ => ?_))); all_goals rfl, by (repeat' (first | (simp (disch := first | omega | (decide +kernel) | (repeat first | assumption | exact HExt.refl _ | refine HExt.set ?_ (by first | omega | (simp only [new_nx, set_nx]; omega)) _ | refine HExt.new ?_ _)) only [↓RD, RU, accW_t, accW_f, isW, ↓putF_get, ↓putF_none, ↓evF_t, ↓evF_c, ↓evF_f, new_nx, set_nx, new_get, set_get, getD_zero, getD_succ, u_not, pop, lop, aop, wop, resL, resV, tupleV, akV, isVal, isCell, Value.cells, ρ0, ρ1, ρ2, ρ3, ρ4, ↓reduceIte, Nat.reduceEqDiff, Nat.reduceAdd, Int.reduceOfNat, Int.reduceNegSucc, reduceCtorEq, ρ5, ρ6, ρ7, ρ8, srcR_c, src_n, src_v, src_s, bnd, lenV, capV, ρ9, ρ10, ρ11, ρ12, ρ13, ρ14, ρ15, ρ16, ρ17, ρ18, ρ19, ρ20, ρ21, ρ22, ρ23, ρ24, Kd.isRo, ρ25, ρ26, bldV, Nat.reduceLeDiff, Int.reduceMul, Int.reduceAdd, Int.reduceSub, Int.reduceToNat, maxLen_eq, zeros_one, appS_some, appV_n, appV_v, appH_t, appH_f, Kd.isEx, ρ27, partV, ρ28, ρ29, hf0]) | (with_reducible first | refine condK_dec (fun _ => ?_) fun _ => ?_ | refine grd_dec (fun _ => ?_) fun _ => ?_ | refine egrd_dec (fun _ => ?_) fun _ => ?_))); all_goals (first | rfl | rw [hf0]), by (repeat' (first | (simp (disch := first | omega | (decide +kernel) | (repeat first | assumption | exact HExt.refl _ | refine HExt.set ?_ (by first | omega | (simp only [new_nx, set_nx]; omega)) _ | refine HExt.new ?_ _)) only [↓RD, RU, accW_t, accW_f, isW, ↓putF_get, ↓putF_none, ↓evF_t, ↓evF_c, ↓evF_f, new_nx, set_nx, new_get, set_get, getD_zero, getD_succ, u_not, pop, lop, aop, wop, resL, resV, tupleV, akV, isVal, isCell, Value.cells, ρ0, ρ1, ρ2, ρ3, ρ4, ↓reduceIte, Nat.reduceEqDiff, Nat.reduceAdd, Int.reduceOfNat, Int.reduceNegSucc, reduceCtorEq, ρ5, ρ6, ρ7, ρ8, srcR_c, src_n, src_v, src_s, bnd, lenV, capV, ρ9, ρ10, ρ11, ρ12, ρ13, ρ14, ρ15, ρ16, ρ17, ρ18, ρ19, ρ20, ρ21, ρ22, ρ23, ρ24, Kd.isRo, ρ25, ρ26, bldV, Nat.reduceLeDiff, Int.reduceMul, Int.reduceAdd, Int.reduceSub, Int.reduceToNat, maxLen_eq, zeros_one, appS_some, appV_n, appV_v, appH_t, appH_f, Kd.isEx, ρ27, partV, ρ28, ρ29]) | (with_reducible first | refine condK_dec (fun _ => ?_) fun _ => ?_ | refine grd_dec (fun _ => ?_) fun _ => ?_ | refine egrd_dec (fun _ => ?_) fun _ => ?_))); all_goals rfl, fun _ => hy0.1, h3, hx1, .nil, .nil, fun x hx => (by cases hx), fun x hx => (by cases hx), fun l' h => h⟩ ?_
  rintro m fr K ⟨l, f, a, v, rfl, g1, g6, g8, g9, ha, hfu, hxK, hG, hnd, hfr, hwf, hch⟩ hag
  have hlen := chn_len hnd hfr
  have hEK := hE0.trans hxK
  have hbK := (hxK.ob H.nx (by omega)).trans hb0
  cases hf : isFr ws top f with
  | false =>
    have hend := hch l (.stop fun h => by rw [hf] at h; cases h)
    rw [hf] at g8
    repeat' (first | (simp (disch := first | omega | (decide +kernel) | (repeat first | assumption | exact HExt.refl _ | refine HExt.set ?_ (by first | omega | (simp only [new_nx, set_nx]; omega)) _ | refine HExt.new ?_ _)) only [↓RD, RU, accW_t, accW_f, isW, ↓putF_get, ↓putF_none, ↓evF_t, ↓evF_c, ↓evF_f, new_nx, set_nx, new_get, set_get, getD_zero, getD_succ, u_not, pop, lop, aop, wop, resL, resV, tupleV, akV, isVal, isCell, Value.cells, ρ0, ρ1, ρ2, ρ3, ρ4, ↓reduceIte, Nat.reduceEqDiff, Nat.reduceAdd, Int.reduceOfNat, Int.reduceNegSucc, reduceCtorEq, ρ5, ρ6, ρ7, ρ8, srcR_c, src_n, src_v, src_s, bnd, lenV, capV, ρ9, ρ10, ρ11, ρ12, ρ13, ρ14, ρ15, ρ16, ρ17, ρ18, ρ19, ρ20, ρ21, ρ22, ρ23, ρ24, Kd.isRo, ρ25, ρ26, bldV, Nat.reduceLeDiff, Int.reduceMul, Int.reduceAdd, Int.reduceSub, Int.reduceToNat, maxLen_eq, zeros_one, appS_some, appV_n, appV_v, appH_t, appH_f, Kd.isEx, ρ27, partV, ρ28, ρ29, g1, g6, g8, g9, hag]) | (with_reducible first | refine condK_dec (fun _ => ?_) fun _ => ?_ | refine grd_dec (fun _ => ?_) fun _ => ?_ | refine egrd_dec (fun _ => ?_) fun _ => ?_))
    all_goals exact ⟨hEK, l, v, hend, hG.low (by omega), hwf, hlen, by rw [hf0]; rfl⟩
  | true =>
  rw [hf] at g8
  obtain rfl := ha hf
  obtain ⟨q, cq, rfl, hs⟩ := hG.sl (by omega) hwf
  repeat' (first | (simp (disch := first | omega | (decide +kernel) | (repeat first | assumption | exact HExt.refl _ | refine HExt.set ?_ (by first | omega | (simp only [new_nx, set_nx]; omega)) _ | refine HExt.new ?_ _)) only [↓RD, RU, accW_t, accW_f, isW, ↓putF_get, ↓putF_none, ↓evF_t, ↓evF_c, ↓evF_f, new_nx, set_nx, new_get, set_get, getD_zero, getD_succ, u_not, pop, lop, aop, wop, resL, resV, tupleV, akV, isVal, isCell, Value.cells, ρ0, ρ1, ρ2, ρ3, ρ4, ↓reduceIte, Nat.reduceEqDiff, Nat.reduceAdd, Int.reduceOfNat, Int.reduceNegSucc, reduceCtorEq, ρ5, ρ6, ρ7, ρ8, srcR_c, src_n, src_v, src_s, bnd, lenV, capV, ρ9, ρ10, ρ11, ρ12, ρ13, ρ14, ρ15, ρ16, ρ17, ρ18, ρ19, ρ20, ρ21, ρ22, ρ23, ρ24, Kd.isRo, ρ25, ρ26, bldV, Nat.reduceLeDiff, Int.reduceMul, Int.reduceAdd, Int.reduceSub, Int.reduceToNat, maxLen_eq, zeros_one, appS_some, appV_n, appV_v, appH_t, appH_f, Kd.isEx, ρ27, partV, ρ28, ρ29, g1, g6, g8, g9, hag]) | (with_reducible first | refine condK_dec (fun _ => ?_) fun _ => ?_ | refine grd_dec (fun _ => ?_) fun _ => ?_ | refine egrd_dec (fun _ => ?_) fun _ => ?_))
  refine (contains_wp hs f (by omega)).mono fun v2 K2 ⟨hv2, hK2⟩ => ?_
  subst hv2 hK2
  by_cases hfl : f ∈ l
  · have hend := hch l (.stop fun _ => hfl)
    rw [decide_eq_true hfl]
    repeat' (first | (simp (disch := first | omega | (decide +kernel) | (repeat first | assumption | exact HExt.refl _ | refine HExt.set ?_ (by first | omega | (simp only [new_nx, set_nx]; omega)) _ | refine HExt.new ?_ _)) only [↓RD, RU, accW_t, accW_f, isW, ↓putF_get, ↓putF_none, ↓evF_t, ↓evF_c, ↓evF_f, new_nx, set_nx, new_get, set_get, getD_zero, getD_succ, u_not, pop, lop, aop, wop, resL, resV, tupleV, akV, isVal, isCell, Value.cells, ρ0, ρ1, ρ2, ρ3, ρ4, ↓reduceIte, Nat.reduceEqDiff, Nat.reduceAdd, Int.reduceOfNat, Int.reduceNegSucc, reduceCtorEq, ρ5, ρ6, ρ7, ρ8, srcR_c, src_n, src_v, src_s, bnd, lenV, capV, ρ9, ρ10, ρ11, ρ12, ρ13, ρ14, ρ15, ρ16, ρ17, ρ18, ρ19, ρ20, ρ21, ρ22, ρ23, ρ24, Kd.isRo, ρ25, ρ26, bldV, Nat.reduceLeDiff, Int.reduceMul, Int.reduceAdd, Int.reduceSub, Int.reduceToNat, maxLen_eq, zeros_one, appS_some, appV_n, appV_v, appH_t, appH_f, Kd.isEx, ρ27, partV, ρ28, ρ29, g9]) | (with_reducible first | refine condK_dec (fun _ => ?_) fun _ => ?_ | refine grd_dec (fun _ => ?_) fun _ => ?_ | refine egrd_dec (fun _ => ?_) fun _ => ?_))
    all_goals exact ⟨hEK, l, _, hend, hG.low (by omega), hwf, hlen, by rw [hf0]; rfl⟩
  · rw [decide_eq_false hfl]
    repeat' (first | (simp (disch := first | omega | (decide +kernel) | (repeat first | assumption | exact HExt.refl _ | refine HExt.set ?_ (by first | omega | (simp only [new_nx, set_nx]; omega)) _ | refine HExt.new ?_ _)) only [↓RD, RU, accW_t, accW_f, isW, ↓putF_get, ↓putF_none, ↓evF_t, ↓evF_c, ↓evF_f, new_nx, set_nx, new_get, set_get, getD_zero, getD_succ, u_not, pop, lop, aop, wop, resL, resV, tupleV, akV, isVal, isCell, Value.cells, ρ0, ρ1, ρ2, ρ3, ρ4, ↓reduceIte, Nat.reduceEqDiff, Nat.reduceAdd, Int.reduceOfNat, Int.reduceNegSucc, reduceCtorEq, ρ5, ρ6, ρ7, ρ8, srcR_c, src_n, src_v, src_s, bnd, lenV, capV, ρ9, ρ10, ρ11, ρ12, ρ13, ρ14, ρ15, ρ16, ρ17, ρ18, ρ19, ρ20, ρ21, ρ22, ρ23, ρ24, Kd.isRo, ρ25, ρ26, bldV, Nat.reduceLeDiff, Int.reduceMul, Int.reduceAdd, Int.reduceSub, Int.reduceToNat, maxLen_eq, zeros_one, appS_some, appV_n, appV_v, appH_t, appH_f, Kd.isEx, ρ27, partV, ρ28, ρ29, g1, g9]) | (with_reducible first | refine condK_dec (fun _ => ?_) fun _ => ?_ | refine grd_dec (fun _ => ?_) fun _ => ?_ | refine egrd_dec (fun _ => ?_) fun _ => ?_))
    have hx3 : HExt K2 (K2.new (.cells [.int .u64 f] 29 .ex)) := by (repeat (first | assumption | exact HExt.refl _ | (refine HExt.set ?_ (by first | omega | (simp only [new_nx, set_nx]; omega)) _) | (refine HExt.new ?_ _)))
    refine optW_app (ints_ok .u64) (ys := [f]) (hG.ext hx3) (hxK.trans hx3) (by simp only [List.length_singleton]; omega) (by simp only [List.length_singleton]; omega) rfl rfl fun v' K3 j1 j2 j3 j4 => ?_
    have hn3 : K2.nx + 1 ≤ K3.nx := j3
    have hnK := hEK.nx
    have hE3 := hE0.trans j2
    have hb3 := (j2.ob H.nx (by omega)).trans hb0
    obtain ⟨hk, hin, hok, c1, c2, c3⟩ := isFr_parts hf
    have hkb := kind0 hk
    repeat' (first | (simp (disch := first | omega | (decide +kernel) | (repeat first | assumption | exact HExt.refl _ | refine HExt.set ?_ (by first | omega | (simp only [new_nx, set_nx]; omega)) _ | refine HExt.new ?_ _)) only [↓RD, RU, accW_t, accW_f, isW, ↓putF_get, ↓putF_none, ↓evF_t, ↓evF_c, ↓evF_f, new_nx, set_nx, new_get, set_get, getD_zero, getD_succ, u_not, pop, lop, aop, wop, resL, resV, tupleV, akV, isVal, isCell, Value.cells, ρ0, ρ1, ρ2, ρ3, ρ4, ↓reduceIte, Nat.reduceEqDiff, Nat.reduceAdd, Int.reduceOfNat, Int.reduceNegSucc, reduceCtorEq, ρ5, ρ6, ρ7, ρ8, srcR_c, src_n, src_v, src_s, bnd, lenV, capV, ρ9, ρ10, ρ11, ρ12, ρ13, ρ14, ρ15, ρ16, ρ17, ρ18, ρ19, ρ20, ρ21, ρ22, ρ23, ρ24, Kd.isRo, ρ25, ρ26, bldV, Nat.reduceLeDiff, Int.reduceMul, Int.reduceAdd, Int.reduceSub, Int.reduceToNat, maxLen_eq, zeros_one, appS_some, appV_n, appV_v, appH_t, appH_f, Kd.isEx, ρ27, partV, ρ28, ρ29, g6, hag, hb3]) | (with_reducible first | refine condK_dec (fun _ => ?_) fun _ => ?_ | refine grd_dec (fun _ => ?_) fun _ => ?_ | refine egrd_dec (fun _ => ?_) fun _ => ?_))
    refine (aget_wp (hw.good hE3) top (f / 4) 1 h1 (by omega) (by omega) h5).mono fun v4 K4 ⟨hv4, hx4⟩ => ?_
    rw [frOk_can (i := 1) hf (by omega), decide_eq_true (show (1 : Int) < hdT (wd ws (f / 4).toNat) by omega), if_pos rfl] at hv4
    subst hv4
    have hnu := nxt_u64 hw f
    have hnx : wd ws (f / 4 + 2 + 1).toNat = nxt ws f := rfl
    rw [hnx]
    have hb4 := (hx4.ob H.nx (by omega)).trans hb3
    have hE4 := hE3.trans hx4
    repeat' (first | (simp (disch := first | omega | (decide +kernel) | (repeat first | assumption | exact HExt.refl _ | refine HExt.set ?_ (by first | omega | (simp only [new_nx, set_nx]; omega)) _ | refine HExt.new ?_ _)) only [↓RD, RU, accW_t, accW_f, isW, ↓putF_get, ↓putF_none, ↓evF_t, ↓evF_c, ↓evF_f, new_nx, set_nx, new_get, set_get, getD_zero, getD_succ, u_not, pop, lop, aop, wop, resL, resV, tupleV, akV, isVal, isCell, Value.cells, ρ0, ρ1, ρ2, ρ3, ρ4, ↓reduceIte, Nat.reduceEqDiff, Nat.reduceAdd, Int.reduceOfNat, Int.reduceNegSucc, reduceCtorEq, ρ5, ρ6, ρ7, ρ8, srcR_c, src_n, src_v, src_s, bnd, lenV, capV, ρ9, ρ10, ρ11, ρ12, ρ13, ρ14, ρ15, ρ16, ρ17, ρ18, ρ19, ρ20, ρ21, ρ22, ρ23, ρ24, Kd.isRo, ρ25, ρ26, bldV, Nat.reduceLeDiff, Int.reduceMul, Int.reduceAdd, Int.reduceSub, Int.reduceToNat, maxLen_eq, zeros_one, appS_some, appV_n, appV_v, appH_t, appH_f, Kd.isEx, ρ27, partV, ρ28, ρ29, hag, hb4]) | (with_reducible first | refine condK_dec (fun _ => ?_) fun _ => ?_ | refine grd_dec (fun _ => ?_) fun _ => ?_ | refine egrd_dec (fun _ => ?_) fun _ => ?_))
    refine (flook_wp (hw.good hE4) top (nxt ws f) h1 hnu h5).mono fun v5 K5 ⟨hx5, x5, y5, hv5, hy5⟩ => ?_
    subst hv5
    repeat' (first | (simp (disch := first | omega | (decide +kernel) | (repeat first | assumption | exact HExt.refl _ | refine HExt.set ?_ (by first | omega | (simp only [new_nx, set_nx]; omega)) _ | refine HExt.new ?_ _)) only [↓RD, RU, accW_t, accW_f, isW, ↓putF_get, ↓putF_none, ↓evF_t, ↓evF_c, ↓evF_f, new_nx, set_nx, new_get, set_get, getD_zero, getD_succ, u_not, pop, lop, aop, wop, resL, resV, tupleV, akV, isVal, isCell, Value.cells, ρ0, ρ1, ρ2, ρ3, ρ4, ↓reduceIte, Nat.reduceEqDiff, Nat.reduceAdd, Int.reduceOfNat, Int.reduceNegSucc, reduceCtorEq, ρ5, ρ6, ρ7, ρ8, srcR_c, src_n, src_v, src_s, bnd, lenV, capV, ρ9, ρ10, ρ11, ρ12, ρ13, ρ14, ρ15, ρ16, ρ17, ρ18, ρ19, ρ20, ρ21, ρ22, ρ23, ρ24, Kd.isRo, ρ25, ρ26, bldV, Nat.reduceLeDiff, Int.reduceMul, Int.reduceAdd, Int.reduceSub, Int.reduceToNat, maxLen_eq, zeros_one, appS_some, appV_n, appV_v, appH_t, appH_f, Kd.isEx, ρ27, partV, ρ28, ρ29]) | (with_reducible first | refine condK_dec (fun _ => ?_) fun _ => ?_ | refine grd_dec (fun _ => ?_) fun _ => ?_ | refine egrd_dec (fun _ => ?_) fun _ => ?_))
    have hnd' : (l ++ [f]).Nodup := by
      rw [List.nodup_append]
      refine ⟨hnd, by simp, fun a ha b hb => ?_⟩
      simp at hb
      exact fun e => hfl (by rw [← hb, ← e]; exact ha)
    refine ⟨_, ?_, l ++ [f], nxt ws f, x5, v', rfl, rfl, rfl, rfl, rfl, fun h => (hy5 h).1, hnu, j2.trans (hx4.trans hx5), j1.ext (hx4.trans hx5), hnd', fun x hx => ?_, fun x hx => ?_, fun l' h => hch l' (.step hf hfl h)⟩
    · simp; omega
    · rcases List.mem_append.1 hx with hx | hx
      · exact hfr x hx
      · simp at hx; rw [hx]; exact hf
    · rcases List.mem_append.1 hx with hx | hx
      · exact hwf x hx
      · simp at hx; rw [hx]; exact u64_wf' hfu
set_option maxHeartbeats 1000000 in
theorem rchain_wp {H : CH} {p : Option Addr} {c : Nat} {ws : List Int} (hw : Words H p c ws) (top f0 : Int) (h1 : -9223372036854775808 ≤ top ∧ top ≤ 9223372036854775807) (h3 : 0 ≤ f0 ∧ f0 < 18446744073709551616) (h5 : ws.length ≤ 9223372036854775807) :
    WpF (tblG Try.prog LG GG) 43 [.agg #[.slice p ws.length c, .int .i64 top], .int .u64 f0] H fun v K => ChOut H K ws top f0 v := by
  refine wpF_rG (by rfl) (by kernel_rfl) ?_; (conv in (rF _ _).body => reduce); (conv in (rF _ _).res => reduce)
  repeat' (first | (simp (disch := first | omega | (decide +kernel) | (repeat first | assumption | exact HExt.refl _ | refine HExt.set ?_ (by first | omega | (simp only [new_nx, set_nx]; omega)) _ | refine HExt.new ?_ _)) only [↓RD, RU, accW_t, accW_f, isW, ↓putF_get, ↓putF_none, ↓evF_t, ↓evF_c, ↓evF_f, new_nx, set_nx, new_get, set_get, getD_zero, getD_succ, u_not, pop, lop, aop, wop, resL, resV, tupleV, akV, isVal, isCell, Value.cells, ρ0, ρ1, ρ2, ρ3, ρ4, ↓reduceIte, Nat.reduceEqDiff, Nat.reduceAdd, Int.reduceOfNat, Int.reduceNegSucc, reduceCtorEq, ρ5, ρ6, ρ7, ρ8, srcR_c, src_n, src_v, src_s, bnd, lenV, capV, ρ9, ρ10, ρ11, ρ12, ρ13, ρ14, ρ15, ρ16, ρ17, ρ18, ρ19, ρ20, ρ21, ρ22, ρ23, ρ24, Kd.isRo, ρ25, ρ26, bldV, Nat.reduceLeDiff, Int.reduceMul, Int.reduceAdd, Int.reduceSub, Int.reduceToNat, maxLen_eq, zeros_one, appS_some, appV_n, appV_v, appH_t, appH_f, Kd.isEx, ρ27, partV, ρ28, ρ29]) | (with_reducible first | refine condK_dec (fun _ => ?_) fun _ => ?_ | refine grd_dec (fun _ => ?_) fun _ => ?_ | refine egrd_dec (fun _ => ?_) fun _ => ?_))
  obtain ⟨K0, hK0⟩ : ∃ K0, K0 = (H.new (.cells [.slice p ws.length c, .int .i64 top] 24 .ex)) := ⟨_, rfl⟩
  have hn0 : K0.nx = H.nx + 1 := by rw [hK0]; rfl
  have hE0 : HExt H K0 := by rw [hK0]; (repeat (first | assumption | exact HExt.refl _ | (refine HExt.set ?_ (by first | omega | (simp only [new_nx, set_nx]; omega)) _) | (refine HExt.new ?_ _)))
  have hb0 : K0.ob H.nx = .cells [.slice p ws.length c, .int .i64 top] 24 .ex := by rw [hK0]; repeat' (first | (simp (disch := first | omega | (decide +kernel) | (repeat first | assumption | exact HExt.refl _ | refine HExt.set ?_ (by first | omega | (simp only [new_nx, set_nx]; omega)) _ | refine HExt.new ?_ _)) only [↓RD, RU, accW_t, accW_f, isW, ↓putF_get, ↓putF_none, ↓evF_t, ↓evF_c, ↓evF_f, new_nx, set_nx, new_get, set_get, getD_zero, getD_succ, u_not, pop, lop, aop, wop, resL, resV, tupleV, akV, isVal, isCell, Value.cells, ρ0, ρ1, ρ2, ρ3, ρ4, ↓reduceIte, Nat.reduceEqDiff, Nat.reduceAdd, Int.reduceOfNat, Int.reduceNegSucc, reduceCtorEq, ρ5, ρ6, ρ7, ρ8, srcR_c, src_n, src_v, src_s, bnd, lenV, capV, ρ9, ρ10, ρ11, ρ12, ρ13, ρ14, ρ15, ρ16, ρ17, ρ18, ρ19, ρ20, ρ21, ρ22, ρ23, ρ24, Kd.isRo, ρ25, ρ26, bldV, Nat.reduceLeDiff, Int.reduceMul, Int.reduceAdd, Int.reduceSub, Int.reduceToNat, maxLen_eq, zeros_one, appS_some, appV_n, appV_v, appH_t, appH_f, Kd.isEx, ρ27, partV, ρ28, ρ29]) | (with_reducible first | refine condK_dec (fun _ => ?_) fun _ => ?_ | refine grd_dec (fun _ => ?_) fun _ => ?_ | refine egrd_dec (fun _ => ?_) fun _ => ?_))
  rw [← hK0]
  refine loop_w (fun m fr K => ∃ (l : List Int) (f : Int) (v : Value), m = 1048577 - l.length ∧ fr 1 = .int .u64 f ∧ fr 6 = v ∧ (0 ≤ f ∧ f < 18446744073709551616) ∧ HExt K0 K ∧ Grw K0 29 1 (ints .u64) K v l ∧ l.Nodup ∧ (∀ x ∈ l, isFr ws top x = true) ∧ (∀ x ∈ l, (Lit.int .u64 x).wf = true) ∧ (∀ l', ChF ws top l f l' → ChF ws top [] f0 l')) (n := 1048577)
    ⟨[], f0, _, rfl, by (repeat' (first | (simp (disch := first | omega | (decide +kernel) | (repeat first | assumption | exact HExt.refl _ | refine HExt.set ?_ (by first | omega | (simp only [new_nx, set_nx]; omega)) _ | refine HExt.new ?_ _)) only [↓RD, RU, accW_t, accW_f, isW, ↓putF_get, ↓putF_none, ↓evF_t, ↓evF_c, ↓evF_f, new_nx, set_nx, new_get, set_get, getD_zero, getD_succ, u_not, pop, lop, aop, wop, resL, resV, tupleV, akV, isVal, isCell, Value.cells, ρ0, ρ1, ρ2, ρ3, ρ4, ↓reduceIte, Nat.reduceEqDiff, Nat.reduceAdd, Int.reduceOfNat, Int.reduceNegSucc, reduceCtorEq, ρ5, ρ6, ρ7, ρ8, srcR_c, src_n, src_v, src_s, bnd, lenV, capV, ρ9, ρ10, ρ11, ρ12, ρ13, ρ14, ρ15, ρ16, ρ17, ρ18, ρ19, ρ20, ρ21, ρ22, ρ23, ρ24, Kd.isRo, ρ25, ρ26, bldV, Nat.reduceLeDiff, Int.reduceMul, Int.reduceAdd, Int.reduceSub, Int.reduceToNat, maxLen_eq, zeros_one, appS_some, appV_n, appV_v, appH_t, appH_f, Kd.isEx, ρ27, partV, ρ28, ρ29]) | (with_reducible first | refine condK_dec (fun _ => ?_) fun _ => ?_ | refine grd_dec (fun _ => ?_) fun _ => ?_ | refine egrd_dec (fun _ => ?_) fun _ => ?_))); all_goals rfl, by (repeat' (first | (simp (disch := first | omega | (decide +kernel) | (repeat first | assumption | exact HExt.refl _ | refine HExt.set ?_ (by first | omega | (simp only [new_nx, set_nx]; omega)) _ | refine HExt.new ?_ _)) only [↓RD, RU, accW_t, accW_f, isW, ↓putF_get, ↓putF_none, ↓evF_t, ↓evF_c, ↓evF_f, new_nx, set_nx, new_get, set_get, getD_zero, getD_succ, u_not, pop, lop, aop, wop, resL, resV, tupleV, akV, isVal, isCell, Value.cells, ρ0, ρ1, ρ2, ρ3, ρ4, ↓reduceIte, Nat.reduceEqDiff, Nat.reduceAdd, Int.reduceOfNat, Int.reduceNegSucc, reduceCtorEq, ρ5, ρ6, ρ7, ρ8, srcR_c, src_n, src_v, src_s, bnd, lenV, capV, ρ9, ρ10, ρ11, ρ12, ρ13, ρ14, ρ15, ρ16, ρ17, ρ18, ρ19, ρ20, ρ21, ρ22, ρ23, ρ24, Kd.isRo, ρ25, ρ26, bldV, Nat.reduceLeDiff, Int.reduceMul, Int.reduceAdd, Int.reduceSub, Int.reduceToNat, maxLen_eq, zeros_one, appS_some, appV_n, appV_v, appH_t, appH_f, Kd.isEx, ρ27, partV, ρ28, ρ29]) | (with_reducible first | refine condK_dec (fun _ => ?_) fun _ => ?_ | refine grd_dec (fun _ => ?_) fun _ => ?_ | refine egrd_dec (fun _ => ?_) fun _ => ?_))); all_goals rfl, h3, HExt.refl _, .nil, .nil, fun x hx => (by cases hx), fun x hx => (by cases hx), fun l' h => h⟩ ?_
  rintro m fr K ⟨l, f, v, rfl, g1, g6, hfu, hxK, hG, hnd, hfr, hwf, hch⟩ hag
  have hlen := chn_len hnd hfr
  have hEK := hE0.trans hxK
  have hnK := hEK.nx
  have hbK := (hxK.ob H.nx (by omega)).trans hb0
  obtain ⟨q, cq, rfl, hs⟩ := hG.sl (by omega) hwf
  have hout : ∀ K', HExt K K' → ChF ws top [] f0 l → ∀ v', (l.length = 0 → v' = .tuple #[.slice none 0 0, .int .i64 1]) → (0 < l.length → v' = .tuple #[.slice q l.length cq, .int .i64 0]) → ChOut H K' ws top f0 v' := fun K' hx' hend v' k1 k2 => by
    by_cases hl0 : l.length = 0
    · have hl : l = [] := List.length_eq_zero_iff.1 hl0
      have hf0 := hend.ne.1 hl
      subst hl
      exact ⟨hEK.trans hx', [], _, hend, .nil, fun x hx => (by cases hx), by decide, by rw [k1 rfl, hf0]; rfl⟩
    · have hf0 : isFr ws top f0 = true := by
        cases h : isFr ws top f0 with
        | true => rfl
        | false => exact absurd (by rw [hend.ne.2 h]; rfl) hl0
      exact ⟨hEK.trans hx', l, _, hend, (hG.low (by omega)).ext hx', hwf, hlen, by rw [k2 (by omega), hf0]; rfl⟩
  repeat' (first | (simp (disch := first | omega | (decide +kernel) | (repeat first | assumption | exact HExt.refl _ | refine HExt.set ?_ (by first | omega | (simp only [new_nx, set_nx]; omega)) _ | refine HExt.new ?_ _)) only [↓RD, RU, accW_t, accW_f, isW, ↓putF_get, ↓putF_none, ↓evF_t, ↓evF_c, ↓evF_f, new_nx, set_nx, new_get, set_get, getD_zero, getD_succ, u_not, pop, lop, aop, wop, resL, resV, tupleV, akV, isVal, isCell, Value.cells, ρ0, ρ1, ρ2, ρ3, ρ4, ↓reduceIte, Nat.reduceEqDiff, Nat.reduceAdd, Int.reduceOfNat, Int.reduceNegSucc, reduceCtorEq, ρ5, ρ6, ρ7, ρ8, srcR_c, src_n, src_v, src_s, bnd, lenV, capV, ρ9, ρ10, ρ11, ρ12, ρ13, ρ14, ρ15, ρ16, ρ17, ρ18, ρ19, ρ20, ρ21, ρ22, ρ23, ρ24, Kd.isRo, ρ25, ρ26, bldV, Nat.reduceLeDiff, Int.reduceMul, Int.reduceAdd, Int.reduceSub, Int.reduceToNat, maxLen_eq, zeros_one, appS_some, appV_n, appV_v, appH_t, appH_f, Kd.isEx, ρ27, partV, ρ28, ρ29, g1, g6, hag, hbK]) | (with_reducible first | refine condK_dec (fun _ => ?_) fun _ => ?_ | refine grd_dec (fun _ => ?_) fun _ => ?_ | refine egrd_dec (fun _ => ?_) fun _ => ?_))
  refine (ris_wp (hw.good hEK) top f h1 hfu h5).mono fun v1 K1 ⟨hx1, A, kk, q1, n1, cq1, q2, n2, c2, hv1, hy⟩ => ?_
  subst hv1
  have hn1 := hx1.nx
  cases hf : isFr ws top f with
  | false =>
    have hend := hch l (.stop fun h => by rw [hf] at h; cases h)
    by_cases hl0 : l.length = 0
    · repeat' (first | (simp (disch := first | omega | (decide +kernel) | (repeat first | assumption | exact HExt.refl _ | refine HExt.set ?_ (by first | omega | (simp only [new_nx, set_nx]; omega)) _ | refine HExt.new ?_ _)) only [↓RD, RU, accW_t, accW_f, isW, ↓putF_get, ↓putF_none, ↓evF_t, ↓evF_c, ↓evF_f, new_nx, set_nx, new_get, set_get, getD_zero, getD_succ, u_not, pop, lop, aop, wop, resL, resV, tupleV, akV, isVal, isCell, Value.cells, ρ0, ρ1, ρ2, ρ3, ρ4, ↓reduceIte, Nat.reduceEqDiff, Nat.reduceAdd, Int.reduceOfNat, Int.reduceNegSucc, reduceCtorEq, ρ5, ρ6, ρ7, ρ8, srcR_c, src_n, src_v, src_s, bnd, lenV, capV, ρ9, ρ10, ρ11, ρ12, ρ13, ρ14, ρ15, ρ16, ρ17, ρ18, ρ19, ρ20, ρ21, ρ22, ρ23, ρ24, Kd.isRo, ρ25, ρ26, bldV, Nat.reduceLeDiff, Int.reduceMul, Int.reduceAdd, Int.reduceSub, Int.reduceToNat, maxLen_eq, zeros_one, appS_some, appV_n, appV_v, appH_t, appH_f, Kd.isEx, ρ27, partV, ρ28, ρ29, g6, hag]) | (with_reducible first | refine condK_dec (fun _ => ?_) fun _ => ?_ | refine grd_dec (fun _ => ?_) fun _ => ?_ | refine egrd_dec (fun _ => ?_) fun _ => ?_))
      all_goals exact hout _ (by (repeat (first | assumption | exact HExt.refl _ | (refine HExt.set ?_ (by first | omega | (simp only [new_nx, set_nx]; omega)) _) | (refine HExt.new ?_ _)))) hend _ (fun _ => rfl) (fun h => by omega)
    · repeat' (first | (simp (disch := first | omega | (decide +kernel) | (repeat first | assumption | exact HExt.refl _ | refine HExt.set ?_ (by first | omega | (simp only [new_nx, set_nx]; omega)) _ | refine HExt.new ?_ _)) only [↓RD, RU, accW_t, accW_f, isW, ↓putF_get, ↓putF_none, ↓evF_t, ↓evF_c, ↓evF_f, new_nx, set_nx, new_get, set_get, getD_zero, getD_succ, u_not, pop, lop, aop, wop, resL, resV, tupleV, akV, isVal, isCell, Value.cells, ρ0, ρ1, ρ2, ρ3, ρ4, ↓reduceIte, Nat.reduceEqDiff, Nat.reduceAdd, Int.reduceOfNat, Int.reduceNegSucc, reduceCtorEq, ρ5, ρ6, ρ7, ρ8, srcR_c, src_n, src_v, src_s, bnd, lenV, capV, ρ9, ρ10, ρ11, ρ12, ρ13, ρ14, ρ15, ρ16, ρ17, ρ18, ρ19, ρ20, ρ21, ρ22, ρ23, ρ24, Kd.isRo, ρ25, ρ26, bldV, Nat.reduceLeDiff, Int.reduceMul, Int.reduceAdd, Int.reduceSub, Int.reduceToNat, maxLen_eq, zeros_one, appS_some, appV_n, appV_v, appH_t, appH_f, Kd.isEx, ρ27, partV, ρ28, ρ29, g6, hag]) | (with_reducible first | refine condK_dec (fun _ => ?_) fun _ => ?_ | refine grd_dec (fun _ => ?_) fun _ => ?_ | refine egrd_dec (fun _ => ?_) fun _ => ?_))
      all_goals exact hout _ (by (repeat (first | assumption | exact HExt.refl _ | (refine HExt.set ?_ (by first | omega | (simp only [new_nx, set_nx]; omega)) _) | (refine HExt.new ?_ _)))) hend _ (fun h => by omega) (fun _ => rfl)
  | true =>
  obtain ⟨rfl, rfl, hW⟩ := hy hf
  repeat' (first | (simp (disch := first | omega | (decide +kernel) | (repeat first | assumption | exact HExt.refl _ | refine HExt.set ?_ (by first | omega | (simp only [new_nx, set_nx]; omega)) _ | refine HExt.new ?_ _)) only [↓RD, RU, accW_t, accW_f, isW, ↓putF_get, ↓putF_none, ↓evF_t, ↓evF_c, ↓evF_f, new_nx, set_nx, new_get, set_get, getD_zero, getD_succ, u_not, pop, lop, aop, wop, resL, resV, tupleV, akV, isVal, isCell, Value.cells, ρ0, ρ1, ρ2, ρ3, ρ4, ↓reduceIte, Nat.reduceEqDiff, Nat.reduceAdd, Int.reduceOfNat, Int.reduceNegSucc, reduceCtorEq, ρ5, ρ6, ρ7, ρ8, srcR_c, src_n, src_v, src_s, bnd, lenV, capV, ρ9, ρ10, ρ11, ρ12, ρ13, ρ14, ρ15, ρ16, ρ17, ρ18, ρ19, ρ20, ρ21, ρ22, ρ23, ρ24, Kd.isRo, ρ25, ρ26, bldV, Nat.reduceLeDiff, Int.reduceMul, Int.reduceAdd, Int.reduceSub, Int.reduceToNat, maxLen_eq, zeros_one, appS_some, appV_n, appV_v, appH_t, appH_f, Kd.isEx, ρ27, partV, ρ28, ρ29, g6, hag]) | (with_reducible first | refine condK_dec (fun _ => ?_) fun _ => ?_ | refine grd_dec (fun _ => ?_) fun _ => ?_ | refine egrd_dec (fun _ => ?_) fun _ => ?_))
  obtain ⟨K2, hK2⟩ : ∃ K2, K2 = ((K1.new (.cells [.int .i64 0, .int .i64 0, .slice none 0 0, .slice none 0 0] 73 .ex)).set K1.nx (.cells [.int .i64 (f / 4), .int .i64 kk, .slice q1 (flds ws f).length cq1, .slice q2 n2 c2] 73 .ex)) := ⟨_, rfl⟩
  have hx2 : HExt K1 K2 := by rw [hK2]; (repeat (first | assumption | exact HExt.refl _ | (refine HExt.set ?_ (by first | omega | (simp only [new_nx, set_nx]; omega)) _) | (refine HExt.new ?_ _)))
  have hn2 : K2.nx = K1.nx + 1 := by rw [hK2]; rfl
  have ho2 : K2.ob K1.nx = .cells [.int .i64 (f / 4), .int .i64 kk, .slice q1 (flds ws f).length cq1, .slice q2 n2 c2] 73 .ex := by rw [hK2, set_get, if_pos rfl]
  rw [← hK2]
  have hx12 := hx1.trans hx2
  refine loop_w (fun m fr2 K' => ∃ i : Nat, m = l.length - i ∧ i ≤ l.length ∧ fr2 9 = .int .i64 (i : Int) ∧ fr2 8 = .bool (decide (f ∉ l.take i)) ∧ K' = K2) (n := l.length) ⟨0, rfl, Nat.zero_le _, by (repeat' (first | (simp (disch := first | omega | (decide +kernel) | (repeat first | assumption | exact HExt.refl _ | refine HExt.set ?_ (by first | omega | (simp only [new_nx, set_nx]; omega)) _ | refine HExt.new ?_ _)) only [↓RD, RU, accW_t, accW_f, isW, ↓putF_get, ↓putF_none, ↓evF_t, ↓evF_c, ↓evF_f, new_nx, set_nx, new_get, set_get, getD_zero, getD_succ, u_not, pop, lop, aop, wop, resL, resV, tupleV, akV, isVal, isCell, Value.cells, ρ0, ρ1, ρ2, ρ3, ρ4, ↓reduceIte, Nat.reduceEqDiff, Nat.reduceAdd, Int.reduceOfNat, Int.reduceNegSucc, reduceCtorEq, ρ5, ρ6, ρ7, ρ8, srcR_c, src_n, src_v, src_s, bnd, lenV, capV, ρ9, ρ10, ρ11, ρ12, ρ13, ρ14, ρ15, ρ16, ρ17, ρ18, ρ19, ρ20, ρ21, ρ22, ρ23, ρ24, Kd.isRo, ρ25, ρ26, bldV, Nat.reduceLeDiff, Int.reduceMul, Int.reduceAdd, Int.reduceSub, Int.reduceToNat, maxLen_eq, zeros_one, appS_some, appV_n, appV_v, appH_t, appH_f, Kd.isEx, ρ27, partV, ρ28, ρ29]) | (with_reducible first | refine condK_dec (fun _ => ?_) fun _ => ?_ | refine grd_dec (fun _ => ?_) fun _ => ?_ | refine egrd_dec (fun _ => ?_) fun _ => ?_))); all_goals rfl, by (repeat' (first | (simp (disch := first | omega | (decide +kernel) | (repeat first | assumption | exact HExt.refl _ | refine HExt.set ?_ (by first | omega | (simp only [new_nx, set_nx]; omega)) _ | refine HExt.new ?_ _)) only [↓RD, RU, accW_t, accW_f, isW, ↓putF_get, ↓putF_none, ↓evF_t, ↓evF_c, ↓evF_f, new_nx, set_nx, new_get, set_get, getD_zero, getD_succ, u_not, pop, lop, aop, wop, resL, resV, tupleV, akV, isVal, isCell, Value.cells, ρ0, ρ1, ρ2, ρ3, ρ4, ↓reduceIte, Nat.reduceEqDiff, Nat.reduceAdd, Int.reduceOfNat, Int.reduceNegSucc, reduceCtorEq, ρ5, ρ6, ρ7, ρ8, srcR_c, src_n, src_v, src_s, bnd, lenV, capV, ρ9, ρ10, ρ11, ρ12, ρ13, ρ14, ρ15, ρ16, ρ17, ρ18, ρ19, ρ20, ρ21, ρ22, ρ23, ρ24, Kd.isRo, ρ25, ρ26, bldV, Nat.reduceLeDiff, Int.reduceMul, Int.reduceAdd, Int.reduceSub, Int.reduceToNat, maxLen_eq, zeros_one, appS_some, appV_n, appV_v, appH_t, appH_f, Kd.isEx, ρ27, partV, ρ28, ρ29]) | (with_reducible first | refine condK_dec (fun _ => ?_) fun _ => ?_ | refine grd_dec (fun _ => ?_) fun _ => ?_ | refine egrd_dec (fun _ => ?_) fun _ => ?_))); all_goals simp, rfl⟩ ?_
  rintro m fr2 K' ⟨i, rfl, hi, g9, g8, rfl⟩ hag2
  by_cases hil : i < l.length
  case pos =>
    obtain ⟨lo, o, os, e, kd, rfl, hl1, hc, hm, hob, hol, hos, hwf1⟩ := (hs.good (CInt.good _) hx12).ints (by omega)
    have hg := hos i hil
    have e0 : l.getD i 0 = l[i] := by rw [List.getD_eq_getElem?_getD, List.getElem?_eq_getElem hil]; rfl
    have htk : f ∈ l.take (i + 1) ↔ f ∈ l.take i ∨ l.getD i 0 = f := by
      rw [List.take_add_one, List.getElem?_eq_getElem hil, List.mem_append, e0]
      simp only [Option.toList_some, List.mem_singleton]
      exact or_congr_right eq_comm
    by_cases h8 : f ∈ l.take i
    · rw [decide_eq_false (fun h => h h8)] at g8
      repeat' (first | (simp (disch := first | omega | (decide +kernel) | (repeat first | assumption | exact HExt.refl _ | refine HExt.set ?_ (by first | omega | (simp only [new_nx, set_nx]; omega)) _ | refine HExt.new ?_ _)) only [↓RD, RU, accW_t, accW_f, isW, ↓putF_get, ↓putF_none, ↓evF_t, ↓evF_c, ↓evF_f, new_nx, set_nx, new_get, set_get, getD_zero, getD_succ, u_not, pop, lop, aop, wop, resL, resV, tupleV, akV, isVal, isCell, Value.cells, ρ0, ρ1, ρ2, ρ3, ρ4, ↓reduceIte, Nat.reduceEqDiff, Nat.reduceAdd, Int.reduceOfNat, Int.reduceNegSucc, reduceCtorEq, ρ5, ρ6, ρ7, ρ8, srcR_c, src_n, src_v, src_s, bnd, lenV, capV, ρ9, ρ10, ρ11, ρ12, ρ13, ρ14, ρ15, ρ16, ρ17, ρ18, ρ19, ρ20, ρ21, ρ22, ρ23, ρ24, Kd.isRo, ρ25, ρ26, bldV, Nat.reduceLeDiff, Int.reduceMul, Int.reduceAdd, Int.reduceSub, Int.reduceToNat, maxLen_eq, zeros_one, appS_some, appV_n, appV_v, appH_t, appH_f, Kd.isEx, ρ27, partV, ρ28, ρ29, g9, g8, hag2, g6, hag]) | (with_reducible first | refine condK_dec (fun _ => ?_) fun _ => ?_ | refine grd_dec (fun _ => ?_) fun _ => ?_ | refine egrd_dec (fun _ => ?_) fun _ => ?_))
      refine ⟨_, by omega, i + 1, rfl, by omega, rfl, ?_⟩
      rw [decide_eq_false (fun h => h (htk.2 (.inl h8)))]
    · rw [decide_eq_true h8] at g8
      by_cases h9 : l.getD i 0 = f
      · rw [h9] at hg
        repeat' (first | (simp (disch := first | omega | (decide +kernel) | (repeat first | assumption | exact HExt.refl _ | refine HExt.set ?_ (by first | omega | (simp only [new_nx, set_nx]; omega)) _ | refine HExt.new ?_ _)) only [↓RD, RU, accW_t, accW_f, isW, ↓putF_get, ↓putF_none, ↓evF_t, ↓evF_c, ↓evF_f, new_nx, set_nx, new_get, set_get, getD_zero, getD_succ, u_not, pop, lop, aop, wop, resL, resV, tupleV, akV, isVal, isCell, Value.cells, ρ0, ρ1, ρ2, ρ3, ρ4, ↓reduceIte, Nat.reduceEqDiff, Nat.reduceAdd, Int.reduceOfNat, Int.reduceNegSucc, reduceCtorEq, ρ5, ρ6, ρ7, ρ8, srcR_c, src_n, src_v, src_s, bnd, lenV, capV, ρ9, ρ10, ρ11, ρ12, ρ13, ρ14, ρ15, ρ16, ρ17, ρ18, ρ19, ρ20, ρ21, ρ22, ρ23, ρ24, Kd.isRo, ρ25, ρ26, bldV, Nat.reduceLeDiff, Int.reduceMul, Int.reduceAdd, Int.reduceSub, Int.reduceToNat, maxLen_eq, zeros_one, appS_some, appV_n, appV_v, appH_t, appH_f, Kd.isEx, ρ27, partV, ρ28, ρ29, g9, g8, hag2, g6, g1, hag, hob, hg]) | (with_reducible first | refine condK_dec (fun _ => ?_) fun _ => ?_ | refine grd_dec (fun _ => ?_) fun _ => ?_ | refine egrd_dec (fun _ => ?_) fun _ => ?_))
        refine ⟨_, by omega, i + 1, rfl, by omega, rfl, ?_⟩
        rw [decide_eq_false (fun h => h (htk.2 (.inr h9)))]
      · repeat' (first | (simp (disch := first | omega | (decide +kernel) | (repeat first | assumption | exact HExt.refl _ | refine HExt.set ?_ (by first | omega | (simp only [new_nx, set_nx]; omega)) _ | refine HExt.new ?_ _)) only [↓RD, RU, accW_t, accW_f, isW, ↓putF_get, ↓putF_none, ↓evF_t, ↓evF_c, ↓evF_f, new_nx, set_nx, new_get, set_get, getD_zero, getD_succ, u_not, pop, lop, aop, wop, resL, resV, tupleV, akV, isVal, isCell, Value.cells, ρ0, ρ1, ρ2, ρ3, ρ4, ↓reduceIte, Nat.reduceEqDiff, Nat.reduceAdd, Int.reduceOfNat, Int.reduceNegSucc, reduceCtorEq, ρ5, ρ6, ρ7, ρ8, srcR_c, src_n, src_v, src_s, bnd, lenV, capV, ρ9, ρ10, ρ11, ρ12, ρ13, ρ14, ρ15, ρ16, ρ17, ρ18, ρ19, ρ20, ρ21, ρ22, ρ23, ρ24, Kd.isRo, ρ25, ρ26, bldV, Nat.reduceLeDiff, Int.reduceMul, Int.reduceAdd, Int.reduceSub, Int.reduceToNat, maxLen_eq, zeros_one, appS_some, appV_n, appV_v, appH_t, appH_f, Kd.isEx, ρ27, partV, ρ28, ρ29, g9, g8, hag2, g6, g1, hag, hob, hg]) | (with_reducible first | refine condK_dec (fun _ => ?_) fun _ => ?_ | refine grd_dec (fun _ => ?_) fun _ => ?_ | refine egrd_dec (fun _ => ?_) fun _ => ?_))
        refine ⟨_, by omega, i + 1, rfl, by omega, rfl, ?_⟩
        rw [decide_eq_true (show ¬ f ∈ l.take (i + 1) from fun h => (htk.1 h).elim h8 h9)]
  case neg =>
  have hie : i = l.length := by omega
  subst hie
  rw [List.take_length] at g8
  by_cases hfl : f ∈ l
  · have hend := hch l (.stop fun _ => hfl)
    rw [decide_eq_false (fun h => h hfl)] at g8
    have hl0 : 0 < l.length := List.length_pos_of_mem hfl
    repeat' (first | (simp (disch := first | omega | (decide +kernel) | (repeat first | assumption | exact HExt.refl _ | refine HExt.set ?_ (by first | omega | (simp only [new_nx, set_nx]; omega)) _ | refine HExt.new ?_ _)) only [↓RD, RU, accW_t, accW_f, isW, ↓putF_get, ↓putF_none, ↓evF_t, ↓evF_c, ↓evF_f, new_nx, set_nx, new_get, set_get, getD_zero, getD_succ, u_not, pop, lop, aop, wop, resL, resV, tupleV, akV, isVal, isCell, Value.cells, ρ0, ρ1, ρ2, ρ3, ρ4, ↓reduceIte, Nat.reduceEqDiff, Nat.reduceAdd, Int.reduceOfNat, Int.reduceNegSucc, reduceCtorEq, ρ5, ρ6, ρ7, ρ8, srcR_c, src_n, src_v, src_s, bnd, lenV, capV, ρ9, ρ10, ρ11, ρ12, ρ13, ρ14, ρ15, ρ16, ρ17, ρ18, ρ19, ρ20, ρ21, ρ22, ρ23, ρ24, Kd.isRo, ρ25, ρ26, bldV, Nat.reduceLeDiff, Int.reduceMul, Int.reduceAdd, Int.reduceSub, Int.reduceToNat, maxLen_eq, zeros_one, appS_some, appV_n, appV_v, appH_t, appH_f, Kd.isEx, ρ27, partV, ρ28, ρ29, g9, g8, hag2, g6, hag]) | (with_reducible first | refine condK_dec (fun _ => ?_) fun _ => ?_ | refine grd_dec (fun _ => ?_) fun _ => ?_ | refine egrd_dec (fun _ => ?_) fun _ => ?_))
    all_goals exact hout _ hx12 hend _ (fun h => by omega) (fun _ => rfl)
  · rw [decide_eq_true hfl] at g8
    repeat' (first | (simp (disch := first | omega | (decide +kernel) | (repeat first | assumption | exact HExt.refl _ | refine HExt.set ?_ (by first | omega | (simp only [new_nx, set_nx]; omega)) _ | refine HExt.new ?_ _)) only [↓RD, RU, accW_t, accW_f, isW, ↓putF_get, ↓putF_none, ↓evF_t, ↓evF_c, ↓evF_f, new_nx, set_nx, new_get, set_get, getD_zero, getD_succ, u_not, pop, lop, aop, wop, resL, resV, tupleV, akV, isVal, isCell, Value.cells, ρ0, ρ1, ρ2, ρ3, ρ4, ↓reduceIte, Nat.reduceEqDiff, Nat.reduceAdd, Int.reduceOfNat, Int.reduceNegSucc, reduceCtorEq, ρ5, ρ6, ρ7, ρ8, srcR_c, src_n, src_v, src_s, bnd, lenV, capV, ρ9, ρ10, ρ11, ρ12, ρ13, ρ14, ρ15, ρ16, ρ17, ρ18, ρ19, ρ20, ρ21, ρ22, ρ23, ρ24, Kd.isRo, ρ25, ρ26, bldV, Nat.reduceLeDiff, Int.reduceMul, Int.reduceAdd, Int.reduceSub, Int.reduceToNat, maxLen_eq, zeros_one, appS_some, appV_n, appV_v, appH_t, appH_f, Kd.isEx, ρ27, partV, ρ28, ρ29, g9, g8, hag2, g6, g1, hag]) | (with_reducible first | refine condK_dec (fun _ => ?_) fun _ => ?_ | refine grd_dec (fun _ => ?_) fun _ => ?_ | refine egrd_dec (fun _ => ?_) fun _ => ?_))
    have hx3 : HExt K' (K'.new (.cells [.int .u64 f] 29 .ex)) := by (repeat (first | assumption | exact HExt.refl _ | (refine HExt.set ?_ (by first | omega | (simp only [new_nx, set_nx]; omega)) _) | (refine HExt.new ?_ _)))
    have hxK' := hxK.trans hx12
    refine optW_app (ints_ok .u64) (ys := [f]) ((hG.ext hx12).ext hx3) (hxK'.trans hx3) (by simp only [List.length_singleton]; omega) (by simp only [List.length_singleton]; omega) rfl rfl fun v' K3 j1 j2 j3 j4 => ?_
    have hn3 : K'.nx + 1 ≤ K3.nx := j3
    have hE3 := hE0.trans j2
    obtain ⟨hk, hin, hok, c1, c2', c3⟩ := isFr_parts hf
    have hkb := kind0 hk
    have hfll := flds_len (fr_see hf)
    have hrow : ∀ o n c, (Value.slice q l.length cq) ≠ .slice (some ⟨K1.nx, o, none⟩) n c := fun o n c e => by
      rcases hG with ⟨_, h⟩ | ⟨b, kd, h, k1, k2, _⟩
      · rw [h] at e; cases e
      · rw [h] at e; cases e; omega
    have ho3 : K3.ob K1.nx = .cells [.int .i64 (f / 4), .int .i64 kk, .slice q1 (flds ws f).length cq1, .slice q2 n2 c2] 73 .ex := (j4 K1.nx (by show K1.nx < K'.nx + 1; omega) hrow).trans (by rw [new_get, if_neg (by omega)]; exact ho2)
    obtain ⟨lf, of, osf, ef, kdf, rfl, hlf, hcf, hmf, hobf, holf, hosf, hwff⟩ := (hW _ (hw.good hE3)).1.ints (by omega)
    have hgf := hosf 1 (by omega)
    have hff := flds_get hf (j := 1) (by omega)
    have hnx : (flds ws f).getD 1 0 = nxt ws f := hff
    rw [hnx] at hgf
    repeat' (first | (simp (disch := first | omega | (decide +kernel) | (repeat first | assumption | exact HExt.refl _ | refine HExt.set ?_ (by first | omega | (simp only [new_nx, set_nx]; omega)) _ | refine HExt.new ?_ _)) only [↓RD, RU, accW_t, accW_f, isW, ↓putF_get, ↓putF_none, ↓evF_t, ↓evF_c, ↓evF_f, new_nx, set_nx, new_get, set_get, getD_zero, getD_succ, u_not, pop, lop, aop, wop, resL, resV, tupleV, akV, isVal, isCell, Value.cells, ρ0, ρ1, ρ2, ρ3, ρ4, ↓reduceIte, Nat.reduceEqDiff, Nat.reduceAdd, Int.reduceOfNat, Int.reduceNegSucc, reduceCtorEq, ρ5, ρ6, ρ7, ρ8, srcR_c, src_n, src_v, src_s, bnd, lenV, capV, ρ9, ρ10, ρ11, ρ12, ρ13, ρ14, ρ15, ρ16, ρ17, ρ18, ρ19, ρ20, ρ21, ρ22, ρ23, ρ24, Kd.isRo, ρ25, ρ26, bldV, Nat.reduceLeDiff, Int.reduceMul, Int.reduceAdd, Int.reduceSub, Int.reduceToNat, maxLen_eq, zeros_one, appS_some, appV_n, appV_v, appH_t, appH_f, Kd.isEx, ρ27, partV, ρ28, ρ29, hag2, hag, ho3, hobf, hgf]) | (with_reducible first | refine condK_dec (fun _ => ?_) fun _ => ?_ | refine grd_dec (fun _ => ?_) fun _ => ?_ | refine egrd_dec (fun _ => ?_) fun _ => ?_))
    have hnd' : (l ++ [f]).Nodup := by
      rw [List.nodup_append]
      refine ⟨hnd, by simp, fun a ha b hb => ?_⟩
      simp at hb
      exact fun e => hfl (by rw [← hb, ← e]; exact ha)
    refine ⟨_, ?_, l ++ [f], nxt ws f, v', rfl, rfl, rfl, nxt_u64 hw f, j2, j1, hnd', fun x hx => ?_, fun x hx => ?_, fun l' h => hch l' (.step hf hfl h)⟩
    · simp; omega
    · rcases List.mem_append.1 hx with hx | hx
      · exact hfr x hx
      · simp at hx; rw [hx]; exact hf
    · rcases List.mem_append.1 hx with hx | hx
      · exact hwf x hx
      · simp at hx; rw [hx]; exact u64_wf' hfu
end Can
end Go.Proofs.Ytopnmlonapimjaa
