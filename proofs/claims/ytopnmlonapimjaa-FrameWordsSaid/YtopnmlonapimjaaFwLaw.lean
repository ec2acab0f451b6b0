/- Frame: the law FrameWords answers true, as a canonical run. -/
import Derived.Test.YtopnmlonapimjaaFwRight
namespace Go.Proofs.Ytopnmlonapimjaa
namespace Can
open Go Go.RowKit
set_option linter.unusedSimpArgs false
set_option linter.unusedVariables false
set_option maxRecDepth 4000
theorem nwI_eq {ws us vs : List Int} {t n j : Nat} (h : NwI ws us t n j) (k : NwI ws vs t n j) : us = vs := wd_ext (h.len.trans k.len.symm) fun i hi => by rw [h.at' i (by rw [← h.len]; exact hi), k.at' i (by rw [← h.len]; exact hi)]
theorem clI_eq {ws us vs : List Int} {a n : Nat} {lv : List Nat} (h : ClI ws us a n lv) (k : ClI ws vs a n lv) : us = vs := wd_ext (h.len.trans k.len.symm) fun i hi => by rw [h.at' i (by rw [← h.len]; exact hi), k.at' i (by rw [← h.len]; exact hi)]
/-- A step of the law. -/
structure FStp where
  k : Int
  f : Int
  i : Int
  w : Int
  lv : List Int
structure FStpOk (s : FStp) : Prop where
  hk : -9223372036854775808 ≤ s.k ∧ s.k ≤ 9223372036854775807
  hf : -9223372036854775808 ≤ s.f ∧ s.f ≤ 9223372036854775807
  hi : -9223372036854775808 ≤ s.i ∧ s.i ≤ 9223372036854775807
  hw : 0 ≤ s.w ∧ s.w < 18446744073709551616
def CFStp : CRep FStp := fun H cs s => ∃ q c, cs = [.int .i64 s.k, .int .i64 s.f, .int .i64 s.i, .int .u64 s.w, .slice q s.lv.length c] ∧ SlAt 1 (CInt .u64) H q c s.lv ∧ FStpOk s
theorem CFStp.good : CGood CFStp := fun _ _ _ _ hx ⟨q, c, h1, h2, h3⟩ => ⟨q, c, h1, h2.good (CInt.good _) hx, h3⟩
theorem grw_but {A K K' : CH} {v : Value} {l : List Int} {mb wb : Nat} (h : Grw A 29 1 (ints .u64) K v l) (hx : But K K' mb wb) (h1 : ∀ o n c, v ≠ .slice (some ⟨mb, o, none⟩) n c) (h2 : ∀ o n c, v ≠ .slice (some ⟨wb, o, none⟩) n c) : Grw A 29 1 (ints .u64) K' v l := by
  rcases h with h | ⟨b, kd, e, g1, g2, g3, g4⟩
  · exact .inl h
  · exact .inr ⟨b, kd, e, g1, Nat.lt_of_lt_of_le g2 hx.nx, (hx.ob b g2 (fun q => h1 _ _ _ (by rw [e, q])) (fun q => h2 _ _ _ (by rw [e, q]))).trans g3, g4⟩
theorem appR_own {K : CH} {e l c0 : Nat} {q : CObj} {xs : List Int} {y : Int} {kd : Kd} (hq : q = .cells (xs.map (.int .u64)) e kd) (hro : kd.isRo = false) (hb : (xs.length + 1) * 8 ≤ 140737488355328)
    {Q : Value → CH → Prop} (kk : ∀ K2, K2.nx = K.nx + 1 → (∀ y', y' < K.nx → y' ≠ l → K2.ob y' = K.ob y') → K2.ob K.nx = .cells ((xs ++ [y]).map (.int .u64)) e .gr → Q (.slice (some ⟨K.nx, 0, none⟩) (xs.length + 1) (xs.length + 1)) K2) :
    optW (appR q e 1 8 l 0 xs.length c0 [.int .u64 y] 1 K) Q := by
  subst hq
  rw [appR_c, if_neg (by decide), if_pos ⟨rfl, rfl, hro, by simp, rfl, hb, by rw [maxLen_eq]; omega⟩, optW_some]
  have htk : (xs.map (Value.int .u64)).take (xs.length * 1) ++ [Value.int .u64 y] = (xs ++ [y]).map (Value.int .u64) := by
    rw [Nat.mul_one, List.take_of_length_le (by simp), List.map_append]; rfl
  rw [htk]
  refine kk _ ?_ (fun y' hy hne => ?_) ?_
  · unfold appH; split <;> rfl
  · unfold appH; split
    · rw [new_get, if_neg (by omega)]
    · rw [new_get, if_neg (by show ¬ y' = K.nx; omega), set_get, if_neg hne]
  · unfold appH; split <;> exact new_get.trans (if_pos rfl)
theorem idx_mod (a : Int) {L : Nat} (h : 0 < L) (h2 : L ≤ 4611686018427387904) : ∃ k : Nat, k < L ∧ IntKind.i64.wrap ((IntKind.u64.wrap a).tmod (L : Int)) = (k : Int) := by
  have hb : 0 ≤ IntKind.u64.wrap a := by
    simp [IntKind.wrap, IntKind.signed, IntKind.bits]; omega
  rw [Int.tmod_eq_emod_of_nonneg hb]
  have h3 := Int.emod_nonneg (IntKind.u64.wrap a) (show (L : Int) ≠ 0 by omega)
  have h4 := Int.emod_lt_of_pos (IntKind.u64.wrap a) (show (0 : Int) < L by omega)
  refine ⟨(IntKind.u64.wrap a % (L : Int)).toNat, by omega, ?_⟩
  rw [w_i64 (by omega) (by omega)]
  omega
/-- What the law's loop keeps: m's box pm, c's box mb and row wb, the words' row. -/
structure WI (H K : CH) (pm mb wb cb : Nat) (kd : Kd) (ws : List Int) (top : Int) (p' : Option Addr) (c' : Nat) (wl : List Int) (v : Value) : Prop where
  m : K.ob pm = .cells [.slice p' ws.length c', .int .i64 top] 24 .ex
  pl : pm < K.nx
  w : Words K p' c' ws
  wn : ∀ l o, p' = some ⟨l, o, none⟩ → l ≠ mb ∧ l ≠ wb ∧ l ≠ pm
  M : MS K mb wb cb kd ws top
  pn : pm ≠ mb ∧ pm ≠ wb
  G : Grw H 29 1 (ints .u64) K v wl
  vn : ∀ b o n c, v = .slice (some ⟨b, o, none⟩) n c → b ≠ mb ∧ b ≠ wb ∧ b ≠ pm ∧ ∀ o', p' ≠ some ⟨b, o', none⟩
  ne : 0 < wl.length
  wu : ∀ x ∈ wl, 0 ≤ x ∧ x < 18446744073709551616
  E : HExt H K
  tp : 1 ≤ top ∧ top ≤ ws.length ∧ ws.length ≤ 1048576
  lo : H.nx ≤ pm ∧ H.nx ≤ mb ∧ H.nx ≤ wb
/-- What the loop keeps, behind a round: m's box is laid anew. -/
theorem WI.step {H K : CH} {pm mb wb cb c2 : Nat} {kd : Kd} {us : List Int} {tp : Int} {p2 : Option Addr} {wl : List Int} {v : Value} (hM : MS K mb wb cb kd us tp) (hw : Words K p2 c2 us) (hp2 : ∀ l o, p2 = some ⟨l, o, none⟩ → l ≠ mb ∧ l ≠ wb ∧ l ≠ pm) (pl : pm < K.nx) (pn : pm ≠ mb ∧ pm ≠ wb) (hG : Grw H 29 1 (ints .u64) K v wl) (hvn : ∀ b o n c, v = .slice (some ⟨b, o, none⟩) n c → b ≠ mb ∧ b ≠ wb ∧ b ≠ pm ∧ ∀ o', p2 ≠ some ⟨b, o', none⟩) (ne : 0 < wl.length) (wu : ∀ x ∈ wl, 0 ≤ x ∧ x < 18446744073709551616) (hE : HExt H K) (htp : 1 ≤ tp ∧ tp ≤ us.length ∧ us.length ≤ 1048576) (lo : H.nx ≤ pm ∧ H.nx ≤ mb ∧ H.nx ≤ wb) :
    WI H (K.set pm (.cells [.slice p2 us.length c2, .int .i64 tp] 24 .ex)) pm mb wb cb kd us tp p2 c2 wl v := by
  have hB : But K (K.set pm (.cells [.slice p2 us.length c2, .int .i64 tp] 24 .ex)) pm pm := ⟨Nat.le_refl _, fun l _ h1 _ => by rw [set_get, if_neg h1]⟩
  refine ⟨by rw [set_get, if_pos rfl], pl, words_but hw hB fun l o e => ⟨(hp2 l o e).2.2, (hp2 l o e).2.2⟩, hp2, hM.oth (fun e => pn.1 e.symm) (fun e => pn.2 e.symm), pn, grw_but hG hB (fun o n c e => (hvn _ o n c e).2.2.1 rfl) (fun o n c e => (hvn _ o n c e).2.2.1 rfl), hvn, ne, wu, hE.set lo.1 _, htp, lo⟩
theorem ns_ob {H : CH} {a b : CObj} : ((H.new a).set H.nx b).ob H.nx = b := by rw [set_get, if_pos rfl]
theorem ns_ext {H : CH} {a b : CObj} : HExt H ((H.new a).set H.nx b) := ((HExt.refl H).new a).set (Nat.le_refl _) b
theorem MS.of_but {H K : CH} {mb wb c x y : Nat} {kd : Kd} {ws : List Int} {top : Int} (h : MS H mb wb c kd ws top) (hx : But H K x y) (h1 : mb ≠ x ∧ mb ≠ y) (h2 : wb ≠ x ∧ wb ≠ y) : MS K mb wb c kd ws top :=
  ⟨(hx.ob _ h.lm h1.1 h1.2).trans h.hmb, (hx.ob _ h.lw h2.1 h2.2).trans h.hwb, h.hk, h.ne, Nat.lt_of_lt_of_le h.lm hx.nx, Nat.lt_of_lt_of_le h.lw hx.nx, h.hc, h.hc2, h.wf, h.ht⟩
theorem WI.mv {H K K' : CH} {pm mb wb cb c2 : Nat} {kd : Kd} {us : List Int} {tp : Int} {p2 : Option Addr} {wl : List Int} {v : Value} (h : WI H K pm mb wb cb kd us tp p2 c2 wl v) (hx : HExt K K') : WI H K' pm mb wb cb kd us tp p2 c2 wl v :=
  ⟨(hx.ob _ h.pl).trans h.m, Nat.lt_of_lt_of_le h.pl hx.nx, h.w.good hx, h.wn, h.M.mv hx, h.pn, h.G.ext hx, h.vn, h.ne, h.wu, h.E.trans hx, h.tp, h.lo⟩
set_option maxHeartbeats 1000000 in
theorem fwords_law {H : CH} {p q1 q2 : Option Addr} {c d1 d2 : Nat} {ws sm : List Int} {sts : List FStp} (hw : Words H p c ws) (top : Int) (ht : -9223372036854775808 ≤ top ∧ top ≤ 9223372036854775807) (hl : ws.length * 8 ≤ 140737488355328) (hs : SlAt 1 (CInt .u64) H q1 d1 sm) (hsl : sm.length ≤ 17592186043904) (hst : SlAt 5 CFStp H q2 d2 sts) (hlv : ∀ s ∈ sts, s.lv.length ≤ 17592186043904) :
    WpF (tblG Try.prog LG GG) 3 [.agg #[.slice p ws.length c, .int .i64 top], .slice q1 sm.length d1, .slice q2 sts.length d2] H fun v K => v = .bool true := by
  refine wpF_rG (by rfl) (by kernel_rfl) ?_; (conv in (rF _ _).body => reduce); (conv in (rF _ _).res => reduce)
  repeat' (first | (simp (disch := first | omega | (decide +kernel) | (repeat first | assumption | exact HExt.refl _ | refine HExt.set ?_ (by first | omega | (simp only [new_nx, set_nx]; omega)) _ | refine HExt.new ?_ _)) only [↓RD, RU, accW_t, accW_f, isW, ↓putF_get, ↓putF_none, ↓evF_t, ↓evF_c, ↓evF_f, new_nx, set_nx, new_get, set_get, getD_zero, getD_succ, u_not, pop, lop, aop, wop, resL, resV, tupleV, akV, isVal, isCell, Value.cells, ρ0, ρ1, ρ2, ρ3, ρ4, ↓reduceIte, Nat.reduceEqDiff, Nat.reduceAdd, Int.reduceOfNat, Int.reduceNegSucc, reduceCtorEq, ρ5, ρ6, ρ7, ρ8, srcR_c, src_n, src_v, src_s, bnd, lenV, capV, ρ9, ρ10, ρ11, ρ12, ρ13, ρ14, ρ15, ρ16, ρ17, ρ18, ρ19, ρ20, ρ21, ρ22, ρ23, ρ24, Kd.isRo, ρ25, ρ26, bldV, Nat.reduceLeDiff, Int.reduceMul, Int.reduceAdd, Int.reduceSub, Int.reduceToNat, maxLen_eq, zeros_one, appS_some, appV_n, appV_v, appH_t, appH_f, Kd.isEx, ρ27, partV, ρ28, ρ29, knownG_iff]) | (with_reducible first | refine condK_dec (fun _ => ?_) fun _ => ?_ | refine grd_dec (fun _ => ?_) fun _ => ?_ | refine egrd_dec (fun _ => ?_) fun _ => ?_))
  have hE0 : HExt H (H.new (.cells [.slice p ws.length c, .int .i64 top] 24 .ex)) := by (repeat (first | assumption | exact HExt.refl _ | (refine HExt.set ?_ (by first | omega | (simp only [new_nx, set_nx]; omega)) _) | (refine HExt.new ?_ _)))
  have hb0 : (H.new (.cells [.slice p ws.length c, .int .i64 top] 24 .ex)).ob H.nx = .cells [.slice p ws.length c, .int .i64 top] 24 .ex := by repeat' (first | (simp (disch := first | omega | (decide +kernel) | (repeat first | assumption | exact HExt.refl _ | refine HExt.set ?_ (by first | omega | (simp only [new_nx, set_nx]; omega)) _ | refine HExt.new ?_ _)) only [↓RD, RU, accW_t, accW_f, isW, ↓putF_get, ↓putF_none, ↓evF_t, ↓evF_c, ↓evF_f, new_nx, set_nx, new_get, set_get, getD_zero, getD_succ, u_not, pop, lop, aop, wop, resL, resV, tupleV, akV, isVal, isCell, Value.cells, ρ0, ρ1, ρ2, ρ3, ρ4, ↓reduceIte, Nat.reduceEqDiff, Nat.reduceAdd, Int.reduceOfNat, Int.reduceNegSucc, reduceCtorEq, ρ5, ρ6, ρ7, ρ8, srcR_c, src_n, src_v, src_s, bnd, lenV, capV, ρ9, ρ10, ρ11, ρ12, ρ13, ρ14, ρ15, ρ16, ρ17, ρ18, ρ19, ρ20, ρ21, ρ22, ρ23, ρ24, Kd.isRo, ρ25, ρ26, bldV, Nat.reduceLeDiff, Int.reduceMul, Int.reduceAdd, Int.reduceSub, Int.reduceToNat, maxLen_eq, zeros_one, appS_some, appV_n, appV_v, appH_t, appH_f, Kd.isEx, ρ27, partV, ρ28, ρ29]) | (with_reducible first | refine condK_dec (fun _ => ?_) fun _ => ?_ | refine grd_dec (fun _ => ?_) fun _ => ?_ | refine egrd_dec (fun _ => ?_) fun _ => ?_))
  have hn0 : H.nx + 1 ≤ (H.new (.cells [.slice p ws.length c, .int .i64 top] 24 .ex)).nx := Nat.le_refl _
  generalize (H.new (.cells [.slice p ws.length c, .int .i64 top] 24 .ex)) = K0 at hE0 hb0 hn0 ⊢
  refine (right_wp (hw.good hE0) top ht (by omega)).mono fun v K1 ⟨hv, hx1⟩ => ?_
  subst hv
  have hE1 := hE0.trans hx1
  have hn1 := hx1.nx
  have hb1 := (hx1.ob _ (by omega)).trans hb0
  cases hf : formF ws top with
  | none =>
    repeat' (first | (simp (disch := first | omega | (decide +kernel) | (repeat first | assumption | exact HExt.refl _ | refine HExt.set ?_ (by first | omega | (simp only [new_nx, set_nx]; omega)) _ | refine HExt.new ?_ _)) only [↓RD, RU, accW_t, accW_f, isW, ↓putF_get, ↓putF_none, ↓evF_t, ↓evF_c, ↓evF_f, new_nx, set_nx, new_get, set_get, getD_zero, getD_succ, u_not, pop, lop, aop, wop, resL, resV, tupleV, akV, isVal, isCell, Value.cells, ρ0, ρ1, ρ2, ρ3, ρ4, ↓reduceIte, Nat.reduceEqDiff, Nat.reduceAdd, Int.reduceOfNat, Int.reduceNegSucc, reduceCtorEq, ρ5, ρ6, ρ7, ρ8, srcR_c, src_n, src_v, src_s, bnd, lenV, capV, ρ9, ρ10, ρ11, ρ12, ρ13, ρ14, ρ15, ρ16, ρ17, ρ18, ρ19, ρ20, ρ21, ρ22, ρ23, ρ24, Kd.isRo, ρ25, ρ26, bldV, Nat.reduceLeDiff, Int.reduceMul, Int.reduceAdd, Int.reduceSub, Int.reduceToNat, maxLen_eq, zeros_one, appS_some, appV_n, appV_v, appH_t, appH_f, Kd.isEx, ρ27, partV, ρ28, ρ29, Option.isSome_none]) | (with_reducible first | refine condK_dec (fun _ => ?_) fun _ => ?_ | refine grd_dec (fun _ => ?_) fun _ => ?_ | refine egrd_dec (fun _ => ?_) fun _ => ?_))
    all_goals rfl
  | some l =>
  have hfp := form_parts hf
  have hus : ∀ x ∈ sm, 0 ≤ x ∧ x < 18446744073709551616 := fun x hx => by
    obtain ⟨i, hi, rfl⟩ := List.getElem_of_mem hx
    obtain ⟨l, o, os, e, kd, _, _, _, _, _, _, _, hwf⟩ := hs.ints (by omega)
    have := u64_wf (hwf i hi)
    rwa [List.getD_eq_getElem?_getD, List.getElem?_eq_getElem hi] at this
  repeat' (first | (simp (disch := first | omega | (decide +kernel) | (repeat first | assumption | exact HExt.refl _ | refine HExt.set ?_ (by first | omega | (simp only [new_nx, set_nx]; omega)) _ | refine HExt.new ?_ _)) only [↓RD, RU, accW_t, accW_f, isW, ↓putF_get, ↓putF_none, ↓evF_t, ↓evF_c, ↓evF_f, new_nx, set_nx, new_get, set_get, getD_zero, getD_succ, u_not, pop, lop, aop, wop, resL, resV, tupleV, akV, isVal, isCell, Value.cells, ρ0, ρ1, ρ2, ρ3, ρ4, ↓reduceIte, Nat.reduceEqDiff, Nat.reduceAdd, Int.reduceOfNat, Int.reduceNegSucc, reduceCtorEq, ρ5, ρ6, ρ7, ρ8, srcR_c, src_n, src_v, src_s, bnd, lenV, capV, ρ9, ρ10, ρ11, ρ12, ρ13, ρ14, ρ15, ρ16, ρ17, ρ18, ρ19, ρ20, ρ21, ρ22, ρ23, ρ24, Kd.isRo, ρ25, ρ26, bldV, Nat.reduceLeDiff, Int.reduceMul, Int.reduceAdd, Int.reduceSub, Int.reduceToNat, maxLen_eq, zeros_one, appS_some, appV_n, appV_v, appH_t, appH_f, Kd.isEx, ρ27, partV, ρ28, ρ29, Option.isSome_some, hb1]) | (with_reducible first | refine condK_dec (fun _ => ?_) fun _ => ?_ | refine grd_dec (fun _ => ?_) fun _ => ?_ | refine egrd_dec (fun _ => ?_) fun _ => ?_))
  refine (rrany_wp (hw.good hE1) top ht (by omega) (hs.good (CInt.good _) hE1)).mono fun v K2 ⟨hx2, b, hv⟩ => ?_
  subst hv
  have hE2 := hE1.trans hx2
  have hn2 := hx2.nx
  have hb2 := (hx2.ob _ (by omega)).trans hb1
  cases b with
  | false =>
    repeat' (first | (simp (disch := first | omega | (decide +kernel) | (repeat first | assumption | exact HExt.refl _ | refine HExt.set ?_ (by first | omega | (simp only [new_nx, set_nx]; omega)) _ | refine HExt.new ?_ _)) only [↓RD, RU, accW_t, accW_f, isW, ↓putF_get, ↓putF_none, ↓evF_t, ↓evF_c, ↓evF_f, new_nx, set_nx, new_get, set_get, getD_zero, getD_succ, u_not, pop, lop, aop, wop, resL, resV, tupleV, akV, isVal, isCell, Value.cells, ρ0, ρ1, ρ2, ρ3, ρ4, ↓reduceIte, Nat.reduceEqDiff, Nat.reduceAdd, Int.reduceOfNat, Int.reduceNegSucc, reduceCtorEq, ρ5, ρ6, ρ7, ρ8, srcR_c, src_n, src_v, src_s, bnd, lenV, capV, ρ9, ρ10, ρ11, ρ12, ρ13, ρ14, ρ15, ρ16, ρ17, ρ18, ρ19, ρ20, ρ21, ρ22, ρ23, ρ24, Kd.isRo, ρ25, ρ26, bldV, Nat.reduceLeDiff, Int.reduceMul, Int.reduceAdd, Int.reduceSub, Int.reduceToNat, maxLen_eq, zeros_one, appS_some, appV_n, appV_v, appH_t, appH_f, Kd.isEx, ρ27, partV, ρ28, ρ29]) | (with_reducible first | refine condK_dec (fun _ => ?_) fun _ => ?_ | refine grd_dec (fun _ => ?_) fun _ => ?_ | refine egrd_dec (fun _ => ?_) fun _ => ?_))
  | true =>
  repeat' (first | (simp (disch := first | omega | (decide +kernel) | (repeat first | assumption | exact HExt.refl _ | refine HExt.set ?_ (by first | omega | (simp only [new_nx, set_nx]; omega)) _ | refine HExt.new ?_ _)) only [↓RD, RU, accW_t, accW_f, isW, ↓putF_get, ↓putF_none, ↓evF_t, ↓evF_c, ↓evF_f, new_nx, set_nx, new_get, set_get, getD_zero, getD_succ, u_not, pop, lop, aop, wop, resL, resV, tupleV, akV, isVal, isCell, Value.cells, ρ0, ρ1, ρ2, ρ3, ρ4, ↓reduceIte, Nat.reduceEqDiff, Nat.reduceAdd, Int.reduceOfNat, Int.reduceNegSucc, reduceCtorEq, ρ5, ρ6, ρ7, ρ8, srcR_c, src_n, src_v, src_s, bnd, lenV, capV, ρ9, ρ10, ρ11, ρ12, ρ13, ρ14, ρ15, ρ16, ρ17, ρ18, ρ19, ρ20, ρ21, ρ22, ρ23, ρ24, Kd.isRo, ρ25, ρ26, bldV, Nat.reduceLeDiff, Int.reduceMul, Int.reduceAdd, Int.reduceSub, Int.reduceToNat, maxLen_eq, zeros_one, appS_some, appV_n, appV_v, appH_t, appH_f, Kd.isEx, ρ27, partV, ρ28, ρ29]) | (with_reducible first | refine condK_dec (fun _ => ?_) fun _ => ?_ | refine grd_dec (fun _ => ?_) fun _ => ?_ | refine egrd_dec (fun _ => ?_) fun _ => ?_))
  refine copy_ints (K := H) hs (by (repeat (first | assumption | exact HExt.refl _ | (refine HExt.set ?_ (by first | omega | (simp only [new_nx, set_nx]; omega)) _) | (refine HExt.new ?_ _)))) (by omega) (by omega) (l := K2.nx) (by repeat' (first | (simp (disch := first | omega | (decide +kernel) | (repeat first | assumption | exact HExt.refl _ | refine HExt.set ?_ (by first | omega | (simp only [new_nx, set_nx]; omega)) _ | refine HExt.new ?_ _)) only [↓RD, RU, accW_t, accW_f, isW, ↓putF_get, ↓putF_none, ↓evF_t, ↓evF_c, ↓evF_f, new_nx, set_nx, new_get, set_get, getD_zero, getD_succ, u_not, pop, lop, aop, wop, resL, resV, tupleV, akV, isVal, isCell, Value.cells, ρ0, ρ1, ρ2, ρ3, ρ4, ↓reduceIte, Nat.reduceEqDiff, Nat.reduceAdd, Int.reduceOfNat, Int.reduceNegSucc, reduceCtorEq, ρ5, ρ6, ρ7, ρ8, srcR_c, src_n, src_v, src_s, bnd, lenV, capV, ρ9, ρ10, ρ11, ρ12, ρ13, ρ14, ρ15, ρ16, ρ17, ρ18, ρ19, ρ20, ρ21, ρ22, ρ23, ρ24, Kd.isRo, ρ25, ρ26, bldV, Nat.reduceLeDiff, Int.reduceMul, Int.reduceAdd, Int.reduceSub, Int.reduceToNat, maxLen_eq, zeros_one, appS_some, appV_n, appV_v, appH_t, appH_f, Kd.isEx, ρ27, partV, ρ28, ρ29]) | (with_reducible first | refine condK_dec (fun _ => ?_) fun _ => ?_ | refine grd_dec (fun _ => ?_) fun _ => ?_ | refine egrd_dec (fun _ => ?_) fun _ => ?_)); rfl) (by first | omega | (simp only [new_nx, set_nx]; omega)) fun x1 c1 K3 kd1 g1 g2 g3 g4 g5 g6 g7 g8 => ?_
  have g1' : K2.nx + 1 ≤ K3.nx := g1
  repeat' (first | (simp (disch := first | omega | (decide +kernel) | (repeat first | assumption | exact HExt.refl _ | refine HExt.set ?_ (by first | omega | (simp only [new_nx, set_nx]; omega)) _ | refine HExt.new ?_ _)) only [↓RD, RU, accW_t, accW_f, isW, ↓putF_get, ↓putF_none, ↓evF_t, ↓evF_c, ↓evF_f, new_nx, set_nx, new_get, set_get, getD_zero, getD_succ, u_not, pop, lop, aop, wop, resL, resV, tupleV, akV, isVal, isCell, Value.cells, ρ0, ρ1, ρ2, ρ3, ρ4, ↓reduceIte, Nat.reduceEqDiff, Nat.reduceAdd, Int.reduceOfNat, Int.reduceNegSucc, reduceCtorEq, ρ5, ρ6, ρ7, ρ8, srcR_c, src_n, src_v, src_s, bnd, lenV, capV, ρ9, ρ10, ρ11, ρ12, ρ13, ρ14, ρ15, ρ16, ρ17, ρ18, ρ19, ρ20, ρ21, ρ22, ρ23, ρ24, Kd.isRo, ρ25, ρ26, bldV, Nat.reduceLeDiff, Int.reduceMul, Int.reduceAdd, Int.reduceSub, Int.reduceToNat, maxLen_eq, zeros_one, appS_some, appV_n, appV_v, appH_t, appH_f, Kd.isEx, ρ27, partV, ρ28, ρ29]) | (with_reducible first | refine condK_dec (fun _ => ?_) fun _ => ?_ | refine grd_dec (fun _ => ?_) fun _ => ?_ | refine egrd_dec (fun _ => ?_) fun _ => ?_))
  have hx1l : K2.nx ≤ x1 := by
    rcases g3 with h | h
    · omega
    · have : K2.nx + 1 ≤ x1 := h
      omega
  refine appR_own (y := 2) g5 g6 (by omega) fun K4 k1 k2 k3 => ?_
  have k1' : K4.nx = K3.nx + 2 := k1
  have hlow4 : ∀ y, y < K2.nx → K4.ob y = K2.ob y := fun y hy => (k2 y (by show y < K3.nx + 1; omega) (by omega)).trans (by rw [new_get, if_neg (by omega), g2 y (by show y < K2.nx + 1; omega), new_get, if_neg (by omega)])
  have hE4 : HExt H K4 := ⟨by have := hE2.nx; omega, fun y hy => (hlow4 y (by have := hE2.nx; omega)).trans (hE2.ob y hy)⟩
  have hb4 := (hlow4 _ (by omega)).trans hb2
  have hG4 : Grw K2 29 1 (ints .u64) K4 (.slice (some ⟨K3.nx + 1, 0, none⟩) (sm.length + 1) (sm.length + 1)) (sm ++ [2]) := .inr ⟨K3.nx + 1, .gr, by simp, by omega, by omega, by rw [flat_ints]; exact k3, rfl⟩
  repeat' (first | (simp (disch := first | omega | (decide +kernel) | (repeat first | assumption | exact HExt.refl _ | refine HExt.set ?_ (by first | omega | (simp only [new_nx, set_nx]; omega)) _ | refine HExt.new ?_ _)) only [↓RD, RU, accW_t, accW_f, isW, ↓putF_get, ↓putF_none, ↓evF_t, ↓evF_c, ↓evF_f, new_nx, set_nx, new_get, set_get, getD_zero, getD_succ, u_not, pop, lop, aop, wop, resL, resV, tupleV, akV, isVal, isCell, Value.cells, ρ0, ρ1, ρ2, ρ3, ρ4, ↓reduceIte, Nat.reduceEqDiff, Nat.reduceAdd, Int.reduceOfNat, Int.reduceNegSucc, reduceCtorEq, ρ5, ρ6, ρ7, ρ8, srcR_c, src_n, src_v, src_s, bnd, lenV, capV, ρ9, ρ10, ρ11, ρ12, ρ13, ρ14, ρ15, ρ16, ρ17, ρ18, ρ19, ρ20, ρ21, ρ22, ρ23, ρ24, Kd.isRo, ρ25, ρ26, bldV, Nat.reduceLeDiff, Int.reduceMul, Int.reduceAdd, Int.reduceSub, Int.reduceToNat, maxLen_eq, zeros_one, appS_some, appV_n, appV_v, appH_t, appH_f, Kd.isEx, ρ27, partV, ρ28, ρ29, hb4]) | (with_reducible first | refine condK_dec (fun _ => ?_) fun _ => ?_ | refine grd_dec (fun _ => ?_) fun _ => ?_ | refine egrd_dec (fun _ => ?_) fun _ => ?_))
  refine (rcopy_wp (hw.good hE4) top hl).mono fun v K5 ⟨hx5, lr, cr, kr, hv, hlr1, hlr2, hobr, hkr, hcr1, hcr2⟩ => ?_
  subst hv
  have hE5 := hE4.trans hx5
  have hn5 := hx5.nx
  have hb5 := (hx5.ob _ (by omega)).trans hb4
  repeat' (first | (simp (disch := first | omega | (decide +kernel) | (repeat first | assumption | exact HExt.refl _ | refine HExt.set ?_ (by first | omega | (simp only [new_nx, set_nx]; omega)) _ | refine HExt.new ?_ _)) only [↓RD, RU, accW_t, accW_f, isW, ↓putF_get, ↓putF_none, ↓evF_t, ↓evF_c, ↓evF_f, new_nx, set_nx, new_get, set_get, getD_zero, getD_succ, u_not, pop, lop, aop, wop, resL, resV, tupleV, akV, isVal, isCell, Value.cells, ρ0, ρ1, ρ2, ρ3, ρ4, ↓reduceIte, Nat.reduceEqDiff, Nat.reduceAdd, Int.reduceOfNat, Int.reduceNegSucc, reduceCtorEq, ρ5, ρ6, ρ7, ρ8, srcR_c, src_n, src_v, src_s, bnd, lenV, capV, ρ9, ρ10, ρ11, ρ12, ρ13, ρ14, ρ15, ρ16, ρ17, ρ18, ρ19, ρ20, ρ21, ρ22, ρ23, ρ24, Kd.isRo, ρ25, ρ26, bldV, Nat.reduceLeDiff, Int.reduceMul, Int.reduceAdd, Int.reduceSub, Int.reduceToNat, maxLen_eq, zeros_one, appS_some, appV_n, appV_v, appH_t, appH_f, Kd.isEx, ρ27, partV, ρ28, ρ29]) | (with_reducible first | refine condK_dec (fun _ => ?_) fun _ => ?_ | refine grd_dec (fun _ => ?_) fun _ => ?_ | refine egrd_dec (fun _ => ?_) fun _ => ?_))
  obtain ⟨K6, hK6⟩ : ∃ K6, K6 = ((K5.new (.cells [.slice none 0 0, .int .i64 0] 24 .ex)).set K5.nx (.cells [.slice (some ⟨lr, 0, none⟩) ws.length cr, .int .i64 top] 24 .ex)) := ⟨_, rfl⟩
  have hx6 : HExt K5 K6 := by rw [hK6]; (repeat (first | assumption | exact HExt.refl _ | (refine HExt.set ?_ (by first | omega | (simp only [new_nx, set_nx]; omega)) _) | (refine HExt.new ?_ _)))
  have hn6 : K6.nx = K5.nx + 1 := by rw [hK6]; rfl
  have hb6 := (hx6.ob _ (by omega)).trans hb5
  have hE6 := hE5.trans hx6
  have hnH2 := hE2.nx
  have hW0 : WI H K6 H.nx K5.nx lr cr kr ws top p c (sm ++ [2]) (.slice (some ⟨K3.nx + 1, 0, none⟩) (sm.length + 1) (sm.length + 1)) := by
    refine ⟨hb6, by omega, hw.good hE6, fun l o e => ?_, ⟨by rw [hK6, set_get, if_pos rfl], (hx6.ob _ hlr2).trans hobr, hkr, by omega, by omega, by omega, hcr1, hcr2, words_wf hw, ht⟩, ⟨by omega, by omega⟩, ((hG4.ext (hx5.trans hx6)).low hnH2), fun b o n c e => ?_, by simp, fun x hx => ?_, hE6, ⟨hfp.2.2.1, hfp.2.2.2.1, hfp.2.1⟩, ⟨by omega, by omega, by omega⟩⟩
    · rcases hw.1 with ⟨_, _, h | h | h⟩ | ⟨l', o', os, e', k, h, hl', _⟩
      · rw [h] at e; cases e
      · rw [h] at e; cases e
      · rw [h] at e; cases e
      · rw [h] at e; cases e
        exact ⟨by omega, by omega, by omega⟩
    · cases e
      refine ⟨by omega, by omega, by omega, fun o' e => ?_⟩
      rcases hw.1 with ⟨_, _, h | h | h⟩ | ⟨l', o'', os, e', k, h, hl', _⟩
      · rw [h] at e; cases e
      · rw [h] at e; cases e
      · rw [h] at e; cases e
      · rw [h] at e; cases e; omega
    · rcases List.mem_append.1 hx with hx | hx
      · exact hus x hx
      · simp at hx; omega
  rw [← hK6]
  obtain ⟨mb, hmb⟩ : ∃ mb, K5.nx = mb := ⟨_, rfl⟩
  rw [hmb] at hW0
  refine loop_w (fun m fr K => ∃ (n : Nat) (us : List Int) (tp : Int) (p' : Option Addr) (c' : Nat) (wl : List Int) (v : Value), m = 100 - n ∧ n ≤ 100 ∧ n ≤ sts.length ∧ fr 8 = .int .i64 (n : Int) ∧ fr 1 = v ∧ WI H K H.nx mb lr cr kr us tp p' c' wl v ∧ wl.length ≤ sm.length + 1 + n ∧ us.length = ws.length) (n := 100) ⟨0, ws, top, p, c, sm ++ [2], _, rfl, by omega, Nat.zero_le _, by (repeat' (first | (simp (disch := first | omega | (decide +kernel) | (repeat first | assumption | exact HExt.refl _ | refine HExt.set ?_ (by first | omega | (simp only [new_nx, set_nx]; omega)) _ | refine HExt.new ?_ _)) only [↓RD, RU, accW_t, accW_f, isW, ↓putF_get, ↓putF_none, ↓evF_t, ↓evF_c, ↓evF_f, new_nx, set_nx, new_get, set_get, getD_zero, getD_succ, u_not, pop, lop, aop, wop, resL, resV, tupleV, akV, isVal, isCell, Value.cells, ρ0, ρ1, ρ2, ρ3, ρ4, ↓reduceIte, Nat.reduceEqDiff, Nat.reduceAdd, Int.reduceOfNat, Int.reduceNegSucc, reduceCtorEq, ρ5, ρ6, ρ7, ρ8, srcR_c, src_n, src_v, src_s, bnd, lenV, capV, ρ9, ρ10, ρ11, ρ12, ρ13, ρ14, ρ15, ρ16, ρ17, ρ18, ρ19, ρ20, ρ21, ρ22, ρ23, ρ24, Kd.isRo, ρ25, ρ26, bldV, Nat.reduceLeDiff, Int.reduceMul, Int.reduceAdd, Int.reduceSub, Int.reduceToNat, maxLen_eq, zeros_one, appS_some, appV_n, appV_v, appH_t, appH_f, Kd.isEx, ρ27, partV, ρ28, ρ29]) | (with_reducible first | refine condK_dec (fun _ => ?_) fun _ => ?_ | refine grd_dec (fun _ => ?_) fun _ => ?_ | refine egrd_dec (fun _ => ?_) fun _ => ?_))); all_goals rfl, by (repeat' (first | (simp (disch := first | omega | (decide +kernel) | (repeat first | assumption | exact HExt.refl _ | refine HExt.set ?_ (by first | omega | (simp only [new_nx, set_nx]; omega)) _ | refine HExt.new ?_ _)) only [↓RD, RU, accW_t, accW_f, isW, ↓putF_get, ↓putF_none, ↓evF_t, ↓evF_c, ↓evF_f, new_nx, set_nx, new_get, set_get, getD_zero, getD_succ, u_not, pop, lop, aop, wop, resL, resV, tupleV, akV, isVal, isCell, Value.cells, ρ0, ρ1, ρ2, ρ3, ρ4, ↓reduceIte, Nat.reduceEqDiff, Nat.reduceAdd, Int.reduceOfNat, Int.reduceNegSucc, reduceCtorEq, ρ5, ρ6, ρ7, ρ8, srcR_c, src_n, src_v, src_s, bnd, lenV, capV, ρ9, ρ10, ρ11, ρ12, ρ13, ρ14, ρ15, ρ16, ρ17, ρ18, ρ19, ρ20, ρ21, ρ22, ρ23, ρ24, Kd.isRo, ρ25, ρ26, bldV, Nat.reduceLeDiff, Int.reduceMul, Int.reduceAdd, Int.reduceSub, Int.reduceToNat, maxLen_eq, zeros_one, appS_some, appV_n, appV_v, appH_t, appH_f, Kd.isEx, ρ27, partV, ρ28, ρ29]) | (with_reducible first | refine condK_dec (fun _ => ?_) fun _ => ?_ | refine grd_dec (fun _ => ?_) fun _ => ?_ | refine egrd_dec (fun _ => ?_) fun _ => ?_))); all_goals rfl, hW0, by simp, rfl⟩ ?_
  rintro m fr K ⟨n, us, tp, p', c'', wl, v, rfl, hn100, hnl, f8, f1, hW, hwl, hul⟩ hag
  by_cases hnn : n < sts.length ∧ n < 100
  case neg =>
    by_cases hq : n < sts.length
    · have h100 : n = 100 := by omega
      repeat' (first | (simp (disch := first | omega | (decide +kernel) | (repeat first | assumption | exact HExt.refl _ | refine HExt.set ?_ (by first | omega | (simp only [new_nx, set_nx]; omega)) _ | refine HExt.new ?_ _)) only [↓RD, RU, accW_t, accW_f, isW, ↓putF_get, ↓putF_none, ↓evF_t, ↓evF_c, ↓evF_f, new_nx, set_nx, new_get, set_get, getD_zero, getD_succ, u_not, pop, lop, aop, wop, resL, resV, tupleV, akV, isVal, isCell, Value.cells, ρ0, ρ1, ρ2, ρ3, ρ4, ↓reduceIte, Nat.reduceEqDiff, Nat.reduceAdd, Int.reduceOfNat, Int.reduceNegSucc, reduceCtorEq, ρ5, ρ6, ρ7, ρ8, srcR_c, src_n, src_v, src_s, bnd, lenV, capV, ρ9, ρ10, ρ11, ρ12, ρ13, ρ14, ρ15, ρ16, ρ17, ρ18, ρ19, ρ20, ρ21, ρ22, ρ23, ρ24, Kd.isRo, ρ25, ρ26, bldV, Nat.reduceLeDiff, Int.reduceMul, Int.reduceAdd, Int.reduceSub, Int.reduceToNat, maxLen_eq, zeros_one, appS_some, appV_n, appV_v, appH_t, appH_f, Kd.isEx, ρ27, partV, ρ28, ρ29, f8, hag]) | (with_reducible first | refine condK_dec (fun _ => ?_) fun _ => ?_ | refine grd_dec (fun _ => ?_) fun _ => ?_ | refine egrd_dec (fun _ => ?_) fun _ => ?_))
      refine (setreg_nil K 4 0 2).mono fun v1 K7 ⟨hv, hK⟩ => ?_
      subst hv hK
      repeat' (first | (simp (disch := first | omega | (decide +kernel) | (repeat first | assumption | exact HExt.refl _ | refine HExt.set ?_ (by first | omega | (simp only [new_nx, set_nx]; omega)) _ | refine HExt.new ?_ _)) only [↓RD, RU, accW_t, accW_f, isW, ↓putF_get, ↓putF_none, ↓evF_t, ↓evF_c, ↓evF_f, new_nx, set_nx, new_get, set_get, getD_zero, getD_succ, u_not, pop, lop, aop, wop, resL, resV, tupleV, akV, isVal, isCell, Value.cells, ρ0, ρ1, ρ2, ρ3, ρ4, ↓reduceIte, Nat.reduceEqDiff, Nat.reduceAdd, Int.reduceOfNat, Int.reduceNegSucc, reduceCtorEq, ρ5, ρ6, ρ7, ρ8, srcR_c, src_n, src_v, src_s, bnd, lenV, capV, ρ9, ρ10, ρ11, ρ12, ρ13, ρ14, ρ15, ρ16, ρ17, ρ18, ρ19, ρ20, ρ21, ρ22, ρ23, ρ24, Kd.isRo, ρ25, ρ26, bldV, Nat.reduceLeDiff, Int.reduceMul, Int.reduceAdd, Int.reduceSub, Int.reduceToNat, maxLen_eq, zeros_one, appS_some, appV_n, appV_v, appH_t, appH_f, Kd.isEx, ρ27, partV, ρ28, ρ29]) | (with_reducible first | refine condK_dec (fun _ => ?_) fun _ => ?_ | refine grd_dec (fun _ => ?_) fun _ => ?_ | refine egrd_dec (fun _ => ?_) fun _ => ?_))
      refine (clear_nil K7 4 none 0 0).mono fun v1 K8 ⟨hv, hK⟩ => ?_
      subst hv
      repeat' (first | (simp (disch := first | omega | (decide +kernel) | (repeat first | assumption | exact HExt.refl _ | refine HExt.set ?_ (by first | omega | (simp only [new_nx, set_nx]; omega)) _ | refine HExt.new ?_ _)) only [↓RD, RU, accW_t, accW_f, isW, ↓putF_get, ↓putF_none, ↓evF_t, ↓evF_c, ↓evF_f, new_nx, set_nx, new_get, set_get, getD_zero, getD_succ, u_not, pop, lop, aop, wop, resL, resV, tupleV, akV, isVal, isCell, Value.cells, ρ0, ρ1, ρ2, ρ3, ρ4, ↓reduceIte, Nat.reduceEqDiff, Nat.reduceAdd, Int.reduceOfNat, Int.reduceNegSucc, reduceCtorEq, ρ5, ρ6, ρ7, ρ8, srcR_c, src_n, src_v, src_s, bnd, lenV, capV, ρ9, ρ10, ρ11, ρ12, ρ13, ρ14, ρ15, ρ16, ρ17, ρ18, ρ19, ρ20, ρ21, ρ22, ρ23, ρ24, Kd.isRo, ρ25, ρ26, bldV, Nat.reduceLeDiff, Int.reduceMul, Int.reduceAdd, Int.reduceSub, Int.reduceToNat, maxLen_eq, zeros_one, appS_some, appV_n, appV_v, appH_t, appH_f, Kd.isEx, ρ27, partV, ρ28, ρ29]) | (with_reducible first | refine condK_dec (fun _ => ?_) fun _ => ?_ | refine grd_dec (fun _ => ?_) fun _ => ?_ | refine egrd_dec (fun _ => ?_) fun _ => ?_))
    · repeat' (first | (simp (disch := first | omega | (decide +kernel) | (repeat first | assumption | exact HExt.refl _ | refine HExt.set ?_ (by first | omega | (simp only [new_nx, set_nx]; omega)) _ | refine HExt.new ?_ _)) only [↓RD, RU, accW_t, accW_f, isW, ↓putF_get, ↓putF_none, ↓evF_t, ↓evF_c, ↓evF_f, new_nx, set_nx, new_get, set_get, getD_zero, getD_succ, u_not, pop, lop, aop, wop, resL, resV, tupleV, akV, isVal, isCell, Value.cells, ρ0, ρ1, ρ2, ρ3, ρ4, ↓reduceIte, Nat.reduceEqDiff, Nat.reduceAdd, Int.reduceOfNat, Int.reduceNegSucc, reduceCtorEq, ρ5, ρ6, ρ7, ρ8, srcR_c, src_n, src_v, src_s, bnd, lenV, capV, ρ9, ρ10, ρ11, ρ12, ρ13, ρ14, ρ15, ρ16, ρ17, ρ18, ρ19, ρ20, ρ21, ρ22, ρ23, ρ24, Kd.isRo, ρ25, ρ26, bldV, Nat.reduceLeDiff, Int.reduceMul, Int.reduceAdd, Int.reduceSub, Int.reduceToNat, maxLen_eq, zeros_one, appS_some, appV_n, appV_v, appH_t, appH_f, Kd.isEx, ρ27, partV, ρ28, ρ29, f8, hag]) | (with_reducible first | refine condK_dec (fun _ => ?_) fun _ => ?_ | refine grd_dec (fun _ => ?_) fun _ => ?_ | refine egrd_dec (fun _ => ?_) fun _ => ?_))
      refine (setreg_nil K 4 0 2).mono fun v1 K7 ⟨hv, hK⟩ => ?_
      subst hv hK
      repeat' (first | (simp (disch := first | omega | (decide +kernel) | (repeat first | assumption | exact HExt.refl _ | refine HExt.set ?_ (by first | omega | (simp only [new_nx, set_nx]; omega)) _ | refine HExt.new ?_ _)) only [↓RD, RU, accW_t, accW_f, isW, ↓putF_get, ↓putF_none, ↓evF_t, ↓evF_c, ↓evF_f, new_nx, set_nx, new_get, set_get, getD_zero, getD_succ, u_not, pop, lop, aop, wop, resL, resV, tupleV, akV, isVal, isCell, Value.cells, ρ0, ρ1, ρ2, ρ3, ρ4, ↓reduceIte, Nat.reduceEqDiff, Nat.reduceAdd, Int.reduceOfNat, Int.reduceNegSucc, reduceCtorEq, ρ5, ρ6, ρ7, ρ8, srcR_c, src_n, src_v, src_s, bnd, lenV, capV, ρ9, ρ10, ρ11, ρ12, ρ13, ρ14, ρ15, ρ16, ρ17, ρ18, ρ19, ρ20, ρ21, ρ22, ρ23, ρ24, Kd.isRo, ρ25, ρ26, bldV, Nat.reduceLeDiff, Int.reduceMul, Int.reduceAdd, Int.reduceSub, Int.reduceToNat, maxLen_eq, zeros_one, appS_some, appV_n, appV_v, appH_t, appH_f, Kd.isEx, ρ27, partV, ρ28, ρ29]) | (with_reducible first | refine condK_dec (fun _ => ?_) fun _ => ?_ | refine grd_dec (fun _ => ?_) fun _ => ?_ | refine egrd_dec (fun _ => ?_) fun _ => ?_))
      refine (clear_nil K7 4 none 0 0).mono fun v1 K8 ⟨hv, hK⟩ => ?_
      subst hv
      repeat' (first | (simp (disch := first | omega | (decide +kernel) | (repeat first | assumption | exact HExt.refl _ | refine HExt.set ?_ (by first | omega | (simp only [new_nx, set_nx]; omega)) _ | refine HExt.new ?_ _)) only [↓RD, RU, accW_t, accW_f, isW, ↓putF_get, ↓putF_none, ↓evF_t, ↓evF_c, ↓evF_f, new_nx, set_nx, new_get, set_get, getD_zero, getD_succ, u_not, pop, lop, aop, wop, resL, resV, tupleV, akV, isVal, isCell, Value.cells, ρ0, ρ1, ρ2, ρ3, ρ4, ↓reduceIte, Nat.reduceEqDiff, Nat.reduceAdd, Int.reduceOfNat, Int.reduceNegSucc, reduceCtorEq, ρ5, ρ6, ρ7, ρ8, srcR_c, src_n, src_v, src_s, bnd, lenV, capV, ρ9, ρ10, ρ11, ρ12, ρ13, ρ14, ρ15, ρ16, ρ17, ρ18, ρ19, ρ20, ρ21, ρ22, ρ23, ρ24, Kd.isRo, ρ25, ρ26, bldV, Nat.reduceLeDiff, Int.reduceMul, Int.reduceAdd, Int.reduceSub, Int.reduceToNat, maxLen_eq, zeros_one, appS_some, appV_n, appV_v, appH_t, appH_f, Kd.isEx, ρ27, partV, ρ28, ρ29]) | (with_reducible first | refine condK_dec (fun _ => ?_) fun _ => ?_ | refine grd_dec (fun _ => ?_) fun _ => ?_ | refine egrd_dec (fun _ => ?_) fun _ => ?_))
  obtain ⟨hn1', hn2'⟩ := hnn
  obtain ⟨st, hst'⟩ : ∃ st, sts[n] = st := ⟨_, rfl⟩
  have hstm : st ∈ sts := by rw [← hst']; exact List.getElem_mem hn1'
  have hlv' := hlv st hstm
  rcases hst with ⟨h, _⟩ | ⟨ls, os', oss, es, ks, hq2, hls1, hls2, hls3, hobs0, hols, hR⟩
  · rw [h] at hn1'; simp at hn1'
  obtain ⟨qv, cv, hcs, hsvH, hok⟩ := hR n hn1'
  rw [hst'] at hcs hsvH hok
  have hsv := hsvH.good (CInt.good _) hW.E
  have hobs := (hW.E.ob ls hls1).trans hobs0
  have hlsK : ls < K.nx := Nat.lt_of_lt_of_le hls1 hW.E.nx
  subst hq2
  rw [maxLen_eq] at hls3
  obtain ⟨qw, cw, rfl, sw⟩ := hW.G.sl (by omega) (fun x hx => u64_wf' (hW.wu x hx))
  have hne := hW.ne
  obtain ⟨lw, ow, osw, ew, kw, rfl, hlw, hcw, hmw, hobw, holw, hosw, hwfw⟩ := sw.ints hne
  rw [maxLen_eq] at hmw
  obtain ⟨k1', hk1, hw1⟩ := idx_mod st.f hne (by omega)
  have hgf := hosw k1' hk1
  obtain ⟨f, hf'⟩ : ∃ f, wl.getD k1' 0 = f := ⟨_, rfl⟩
  rw [hf'] at hgf
  obtain ⟨k2', hk2, hw2⟩ := idx_mod st.w hne (by omega)
  rw [w_u64 hok.hw.1 hok.hw.2] at hw2
  have hgv := hosw k2' hk2
  obtain ⟨y, hy⟩ : ∃ y, (if st.w % 2 = 0 then wl.getD k2' 0 else st.w) = y := ⟨_, rfl⟩
  have hpl := hW.pl
  have hmm := hW.m
  rcases hW.G with ⟨h, _⟩ | ⟨wb', kb, hve, gb1, gb2, gb3, gb4⟩
  · rw [h] at hne; simp at hne
  cases hve
  rw [flat_ints] at gb3
  simp only [Nat.zero_add] at hgf hgv
  have hfu : 0 ≤ f ∧ f < 18446744073709551616 := by
    have e0 : wl.getD k1' 0 = wl[k1'] := by rw [List.getD_eq_getElem?_getD, List.getElem?_eq_getElem hk1]; rfl
    rw [← hf', e0]
    exact hW.wu _ (List.getElem_mem hk1)
  have hyu : 0 ≤ y ∧ y < 18446744073709551616 := by
    rw [← hy]
    split
    · have e0 : wl.getD k2' 0 = wl[k2'] := by rw [List.getD_eq_getElem?_getD, List.getElem?_eq_getElem hk2]; rfl
      rw [e0]
      exact hW.wu _ (List.getElem_mem hk2)
    · exact hok.hw
  have hk5 : st.k = 0 ∨ st.k = 1 ∨ st.k = 2 ∨ st.k = 3 ∨ (st.k ≠ 0 ∧ st.k ≠ 1 ∧ st.k ≠ 2 ∧ st.k ≠ 3) := by omega
  have hul2 := hW.tp
  by_cases hev : st.w % 2 = 0
  case pos =>
    rw [if_pos hev] at hy
    rw [hy] at hgv
    have hev1 : decide (st.w.tmod 2 = 0) = true := decide_eq_true (by rw [Int.tmod_eq_emod_of_nonneg hok.hw.1]; exact hev)
    rcases hk5 with hk | hk | hk | hk | ⟨hk0, hk1', hk2', hk3⟩
    · rw [hk] at hcs
      have hlm0 := hW.M.lm
      have hlw0 := hW.M.lw
      repeat' (first | (simp (disch := first | omega | (decide +kernel) | (repeat first | assumption | exact HExt.refl _ | refine HExt.set ?_ (by first | omega | (simp only [new_nx, set_nx]; omega)) _ | refine HExt.new ?_ _)) only [↓RD, RU, accW_t, accW_f, isW, ↓putF_get, ↓putF_none, ↓evF_t, ↓evF_c, ↓evF_f, new_nx, set_nx, new_get, set_get, getD_zero, getD_succ, u_not, pop, lop, aop, wop, resL, resV, tupleV, akV, isVal, isCell, Value.cells, ρ0, ρ1, ρ2, ρ3, ρ4, ↓reduceIte, Nat.reduceEqDiff, Nat.reduceAdd, Int.reduceOfNat, Int.reduceNegSucc, reduceCtorEq, ρ5, ρ6, ρ7, ρ8, srcR_c, src_n, src_v, src_s, bnd, lenV, capV, ρ9, ρ10, ρ11, ρ12, ρ13, ρ14, ρ15, ρ16, ρ17, ρ18, ρ19, ρ20, ρ21, ρ22, ρ23, ρ24, Kd.isRo, ρ25, ρ26, bldV, Nat.reduceLeDiff, Int.reduceMul, Int.reduceAdd, Int.reduceSub, Int.reduceToNat, maxLen_eq, zeros_one, appS_some, appV_n, appV_v, appH_t, appH_f, Kd.isEx, ρ27, partV, ρ28, ρ29, f8, f1, hag, hobs, hcs, hobw, hw1, hgf, hw2, hgv, hmm, hpl, hev1, hmb]) | (with_reducible first | refine condK_dec (fun _ => ?_) fun _ => ?_ | refine grd_dec (fun _ => ?_) fun _ => ?_ | refine egrd_dec (fun _ => ?_) fun _ => ?_))
      obtain ⟨Kn, hKn⟩ : ∃ Kn, Kn = ((K.new (.cells [.int .i64 0, .int .i64 0, .int .i64 0, .int .u64 0, .slice none 0 0] 32 .ex)).set K.nx (.cells [.int .i64 0, .int .i64 st.f, .int .i64 st.i, .int .u64 st.w, .slice qv st.lv.length cv] 32 .ex)) := ⟨_, rfl⟩
      have hxn : HExt K Kn := by rw [hKn]; exact ns_ext
      have hnn : Kn.nx = K.nx + 1 := by rw [hKn]; rfl
      have hbn : Kn.ob K.nx = .cells [.int .i64 0, .int .i64 st.f, .int .i64 st.i, .int .u64 st.w, .slice qv st.lv.length cv] 32 .ex := by rw [hKn]; exact ns_ob
      rw [← hKn]
      refine (rnew_wp (hW.w.good hxn) tp st.i ⟨hW.tp.1, hW.tp.2.1⟩ hW.tp.2.2 hok.hi).mono fun v1 K1 ⟨hx1, hv1⟩ => ?_
      have hM1 := hW.M.mv (hxn.trans hx1)
      have hn1 := hx1.nx
      have hb1 := (hx1.ob _ (by omega)).trans hbn
      rcases hv1 with ⟨hno, e1, rfl, he1⟩ | ⟨hyes, us1, l1, c1, hN1, rfl, hl1, hW1⟩
      · have he0 : e1 ≠ 0 := by split at he1 <;> omega
        repeat' (first | (simp (disch := first | omega | (decide +kernel) | (repeat first | assumption | exact HExt.refl _ | refine HExt.set ?_ (by first | omega | (simp only [new_nx, set_nx]; omega)) _ | refine HExt.new ?_ _)) only [↓RD, RU, accW_t, accW_f, isW, ↓putF_get, ↓putF_none, ↓evF_t, ↓evF_c, ↓evF_f, new_nx, set_nx, new_get, set_get, getD_zero, getD_succ, u_not, pop, lop, aop, wop, resL, resV, tupleV, akV, isVal, isCell, Value.cells, ρ0, ρ1, ρ2, ρ3, ρ4, ↓reduceIte, Nat.reduceEqDiff, Nat.reduceAdd, Int.reduceOfNat, Int.reduceNegSucc, reduceCtorEq, ρ5, ρ6, ρ7, ρ8, srcR_c, src_n, src_v, src_s, bnd, lenV, capV, ρ9, ρ10, ρ11, ρ12, ρ13, ρ14, ρ15, ρ16, ρ17, ρ18, ρ19, ρ20, ρ21, ρ22, ρ23, ρ24, Kd.isRo, ρ25, ρ26, bldV, Nat.reduceLeDiff, Int.reduceMul, Int.reduceAdd, Int.reduceSub, Int.reduceToNat, maxLen_eq, zeros_one, appS_some, appV_n, appV_v, appH_t, appH_f, Kd.isEx, ρ27, partV, ρ28, ρ29, hag, hmb, hb1]) | (with_reducible first | refine condK_dec (fun _ => ?_) fun _ => ?_ | refine grd_dec (fun _ => ?_) fun _ => ?_ | refine egrd_dec (fun _ => ?_) fun _ => ?_))
        obtain ⟨Km, hKm⟩ : ∃ Km, Km = ((K1.new (.cells [.slice none 0 0, .int .i64 0] 24 .ex)).set K1.nx (.cells [.slice p' us.length c'', .int .i64 tp] 24 .ex)) := ⟨_, rfl⟩
        have hxm : HExt K1 Km := by rw [hKm]; exact ns_ext
        have hnm : Km.nx = K1.nx + 1 := by rw [hKm]; rfl
        have hbm : Km.ob K1.nx = .cells [.slice p' us.length c'', .int .i64 tp] 24 .ex := by rw [hKm]; exact ns_ob
        rw [← hKm]
        refine (fnew_wp (hM1.mv hxm) ⟨hW.tp.1, hW.tp.2.1⟩ hW.tp.2.2 st.i hok.hi).mono fun v2 K2 ⟨hB2, hv2⟩ => ?_
        rcases hv2 with ⟨_, ⟨e2, rfl, he2⟩, hM2⟩ | ⟨hy2, _⟩
        case inr => exact absurd hy2 hno
        have he12 : e2 = e1 := by split at he1 <;> split at he2 <;> omega
        subst he12
        have hn2 := hB2.nx
        have hbm2 := (hB2.ob K1.nx (by omega) (by omega) (by omega)).trans hbm
        have hb2 := (hB2.ob K.nx (by omega) (by omega) (by omega)).trans ((hxm.ob _ (by omega)).trans hb1)
        have hmm2 := (hB2.ob H.nx (by omega) hW.pn.1 hW.pn.2).trans (((hxn.trans hx1).trans hxm).ob _ hpl |>.trans hmm)
        have hmb2 := hM2.hmb
        repeat' (first | (simp (disch := first | omega | (decide +kernel) | (repeat first | assumption | exact HExt.refl _ | refine HExt.set ?_ (by first | omega | (simp only [new_nx, set_nx]; omega)) _ | refine HExt.new ?_ _)) only [↓RD, RU, accW_t, accW_f, isW, ↓putF_get, ↓putF_none, ↓evF_t, ↓evF_c, ↓evF_f, new_nx, set_nx, new_get, set_get, getD_zero, getD_succ, u_not, pop, lop, aop, wop, resL, resV, tupleV, akV, isVal, isCell, Value.cells, ρ0, ρ1, ρ2, ρ3, ρ4, ↓reduceIte, Nat.reduceEqDiff, Nat.reduceAdd, Int.reduceOfNat, Int.reduceNegSucc, reduceCtorEq, ρ5, ρ6, ρ7, ρ8, srcR_c, src_n, src_v, src_s, bnd, lenV, capV, ρ9, ρ10, ρ11, ρ12, ρ13, ρ14, ρ15, ρ16, ρ17, ρ18, ρ19, ρ20, ρ21, ρ22, ρ23, ρ24, Kd.isRo, ρ25, ρ26, bldV, Nat.reduceLeDiff, Int.reduceMul, Int.reduceAdd, Int.reduceSub, Int.reduceToNat, maxLen_eq, zeros_one, appS_some, appV_n, appV_v, appH_t, appH_f, Kd.isEx, ρ27, partV, ρ28, ρ29, hag, hmb, hbm2, hmm2, he0, hmb2]) | (with_reducible first | refine condK_dec (fun _ => ?_) fun _ => ?_ | refine grd_dec (fun _ => ?_) fun _ => ?_ | refine egrd_dec (fun _ => ?_) fun _ => ?_))
        have hE2 : HExt H K2 := hB2.ext (((hW.E.trans hxn).trans hx1).trans hxm) hW.lo.2.1 hW.lo.2.2
        have hBK := (((hxn.trans hx1).trans hxm).but mb lr).trans hB2
        have hW4 := WI.step hM2 (words_but hW.w hBK fun l o e => ⟨(hW.wn l o e).1, (hW.wn l o e).2.1⟩) hW.wn (by omega) hW.pn (grw_but hW.G hBK (fun o n c e => (hW.vn _ o n c e).1 rfl) (fun o n c e => (hW.vn _ o n c e).2.1 rfl)) hW.vn hW.ne hW.wu hE2 hW.tp hW.lo
        have hb4 : (K2.set H.nx (.cells [.slice p' us.length c'', .int .i64 tp] 24 .ex)).ob K.nx = _ := (set_get.trans (if_neg (by omega))).trans hb2
        have hn4 : K.nx < (K2.set H.nx (.cells [.slice p' us.length c'', .int .i64 tp] 24 .ex)).nx := by show K.nx < K2.nx; omega
        generalize (K2.set H.nx (.cells [.slice p' us.length c'', .int .i64 tp] 24 .ex)) = K4 at hW4 hb4 hn4 ⊢
        have hul4 : us.length = ws.length := hul
        have hwl4 : wl.length ≤ sm.length + 1 + (n + 1) := by omega
        refine (rsame_wp hW4.w.1 hW4.M.words.1 tp tp (by omega) (by omega)).mono fun v5 K5 ⟨hv5, hx5⟩ => ?_
        rw [dec_t ⟨rfl, rfl⟩] at hv5
        subst hv5
        have hb5 := (hx5.ob _ hn4).trans hb4
        have hm5 := (hx5.ob _ hW4.pl).trans hW4.m
        repeat' (first | (simp (disch := first | omega | (decide +kernel) | (repeat first | assumption | exact HExt.refl _ | refine HExt.set ?_ (by first | omega | (simp only [new_nx, set_nx]; omega)) _ | refine HExt.new ?_ _)) only [↓RD, RU, accW_t, accW_f, isW, ↓putF_get, ↓putF_none, ↓evF_t, ↓evF_c, ↓evF_f, new_nx, set_nx, new_get, set_get, getD_zero, getD_succ, u_not, pop, lop, aop, wop, resL, resV, tupleV, akV, isVal, isCell, Value.cells, ρ0, ρ1, ρ2, ρ3, ρ4, ↓reduceIte, Nat.reduceEqDiff, Nat.reduceAdd, Int.reduceOfNat, Int.reduceNegSucc, reduceCtorEq, ρ5, ρ6, ρ7, ρ8, srcR_c, src_n, src_v, src_s, bnd, lenV, capV, ρ9, ρ10, ρ11, ρ12, ρ13, ρ14, ρ15, ρ16, ρ17, ρ18, ρ19, ρ20, ρ21, ρ22, ρ23, ρ24, Kd.isRo, ρ25, ρ26, bldV, Nat.reduceLeDiff, Int.reduceMul, Int.reduceAdd, Int.reduceSub, Int.reduceToNat, maxLen_eq, zeros_one, appS_some, appV_n, appV_v, appH_t, appH_f, Kd.isEx, ρ27, partV, ρ28, ρ29, hag, hmb, hm5, hb5]) | (with_reducible first | refine condK_dec (fun _ => ?_) fun _ => ?_ | refine grd_dec (fun _ => ?_) fun _ => ?_ | refine egrd_dec (fun _ => ?_) fun _ => ?_))
        refine (asks_wp (hW4.w.good hx5) tp f st.i (by omega) hfu hok.hi (by omega)).mono fun v6 K6 ⟨hv6, hx6⟩ => ?_
        subst hv6
        repeat' (first | (simp (disch := first | omega | (decide +kernel) | (repeat first | assumption | exact HExt.refl _ | refine HExt.set ?_ (by first | omega | (simp only [new_nx, set_nx]; omega)) _ | refine HExt.new ?_ _)) only [↓RD, RU, accW_t, accW_f, isW, ↓putF_get, ↓putF_none, ↓evF_t, ↓evF_c, ↓evF_f, new_nx, set_nx, new_get, set_get, getD_zero, getD_succ, u_not, pop, lop, aop, wop, resL, resV, tupleV, akV, isVal, isCell, Value.cells, ρ0, ρ1, ρ2, ρ3, ρ4, ↓reduceIte, Nat.reduceEqDiff, Nat.reduceAdd, Int.reduceOfNat, Int.reduceNegSucc, reduceCtorEq, ρ5, ρ6, ρ7, ρ8, srcR_c, src_n, src_v, src_s, bnd, lenV, capV, ρ9, ρ10, ρ11, ρ12, ρ13, ρ14, ρ15, ρ16, ρ17, ρ18, ρ19, ρ20, ρ21, ρ22, ρ23, ρ24, Kd.isRo, ρ25, ρ26, bldV, Nat.reduceLeDiff, Int.reduceMul, Int.reduceAdd, Int.reduceSub, Int.reduceToNat, maxLen_eq, zeros_one, appS_some, appV_n, appV_v, appH_t, appH_f, Kd.isEx, ρ27, partV, ρ28, ρ29, f8, f1]) | (with_reducible first | refine condK_dec (fun _ => ?_) fun _ => ?_ | refine grd_dec (fun _ => ?_) fun _ => ?_ | refine egrd_dec (fun _ => ?_) fun _ => ?_))
        all_goals exact ⟨100 - (n + 1), by omega, n + 1, us, tp, p', c'', wl, _, rfl, by omega, by omega, rfl, rfl, hW4.mv (hx5.trans hx6), hwl4, hul4⟩
      · obtain ⟨hy1, hy2, hy3⟩ := hyes
        have hl1' : l1 < K1.nx := by
          rcases hW1.1 with ⟨h, _⟩ | ⟨l', o', os, e', k, h, hl', _⟩
          · have := hN1.len; rw [h] at this; simp at this; omega
          · cases h; exact hl'
        repeat' (first | (simp (disch := first | omega | (decide +kernel) | (repeat first | assumption | exact HExt.refl _ | refine HExt.set ?_ (by first | omega | (simp only [new_nx, set_nx]; omega)) _ | refine HExt.new ?_ _)) only [↓RD, RU, accW_t, accW_f, isW, ↓putF_get, ↓putF_none, ↓evF_t, ↓evF_c, ↓evF_f, new_nx, set_nx, new_get, set_get, getD_zero, getD_succ, u_not, pop, lop, aop, wop, resL, resV, tupleV, akV, isVal, isCell, Value.cells, ρ0, ρ1, ρ2, ρ3, ρ4, ↓reduceIte, Nat.reduceEqDiff, Nat.reduceAdd, Int.reduceOfNat, Int.reduceNegSucc, reduceCtorEq, ρ5, ρ6, ρ7, ρ8, srcR_c, src_n, src_v, src_s, bnd, lenV, capV, ρ9, ρ10, ρ11, ρ12, ρ13, ρ14, ρ15, ρ16, ρ17, ρ18, ρ19, ρ20, ρ21, ρ22, ρ23, ρ24, Kd.isRo, ρ25, ρ26, bldV, Nat.reduceLeDiff, Int.reduceMul, Int.reduceAdd, Int.reduceSub, Int.reduceToNat, maxLen_eq, zeros_one, appS_some, appV_n, appV_v, appH_t, appH_f, Kd.isEx, ρ27, partV, ρ28, ρ29, hag, hmb, hb1]) | (with_reducible first | refine condK_dec (fun _ => ?_) fun _ => ?_ | refine grd_dec (fun _ => ?_) fun _ => ?_ | refine egrd_dec (fun _ => ?_) fun _ => ?_))
        obtain ⟨Km, hKm⟩ : ∃ Km, Km = ((K1.new (.cells [.slice none 0 0, .int .i64 0] 24 .ex)).set K1.nx (.cells [.slice (some ⟨l1, 0, none⟩) us.length c1, .int .i64 (tp + (8 + st.i))] 24 .ex)) := ⟨_, rfl⟩
        have hxm : HExt K1 Km := by rw [hKm]; exact ns_ext
        have hnm : Km.nx = K1.nx + 1 := by rw [hKm]; rfl
        have hbm : Km.ob K1.nx = .cells [.slice (some ⟨l1, 0, none⟩) us.length c1, .int .i64 (tp + (8 + st.i))] 24 .ex := by rw [hKm]; exact ns_ob
        rw [← hKm]
        refine (fnew_wp (hM1.mv hxm) ⟨hW.tp.1, hW.tp.2.1⟩ hW.tp.2.2 st.i hok.hi).mono fun v2 K2 ⟨hB2, hv2⟩ => ?_
        rcases hv2 with ⟨hn2, _⟩ | ⟨_, us2, hN2, rfl, hM2⟩
        case inl => exact absurd ⟨hy1, hy2, hy3⟩ hn2
        have hus : us2 = us1 := nwI_eq hN2 hN1
        subst hus
        have hul1 := hN2.len
        have hn2 := hB2.nx
        have hbm2 := (hB2.ob K1.nx (by omega) (by omega) (by omega)).trans hbm
        have hb2 := (hB2.ob K.nx (by omega) (by omega) (by omega)).trans ((hxm.ob _ (by omega)).trans hb1)
        have hmm2 := (hB2.ob H.nx (by omega) hW.pn.1 hW.pn.2).trans (((hxn.trans hx1).trans hxm).ob _ hpl |>.trans hmm)
        have hmb2 := hM2.hmb
        have hvn := hW.vn lw 0 _ _ rfl
        have hlw2 := (hB2.ob lw (by omega) hvn.1 hvn.2.1).trans (((hxn.trans hx1).trans hxm).ob _ gb2 |>.trans gb3)
        repeat' (first | (simp (disch := first | omega | (decide +kernel) | (repeat first | assumption | exact HExt.refl _ | refine HExt.set ?_ (by first | omega | (simp only [new_nx, set_nx]; omega)) _ | refine HExt.new ?_ _)) only [↓RD, RU, accW_t, accW_f, isW, ↓putF_get, ↓putF_none, ↓evF_t, ↓evF_c, ↓evF_f, new_nx, set_nx, new_get, set_get, getD_zero, getD_succ, u_not, pop, lop, aop, wop, resL, resV, tupleV, akV, isVal, isCell, Value.cells, ρ0, ρ1, ρ2, ρ3, ρ4, ↓reduceIte, Nat.reduceEqDiff, Nat.reduceAdd, Int.reduceOfNat, Int.reduceNegSucc, reduceCtorEq, ρ5, ρ6, ρ7, ρ8, srcR_c, src_n, src_v, src_s, bnd, lenV, capV, ρ9, ρ10, ρ11, ρ12, ρ13, ρ14, ρ15, ρ16, ρ17, ρ18, ρ19, ρ20, ρ21, ρ22, ρ23, ρ24, Kd.isRo, ρ25, ρ26, bldV, Nat.reduceLeDiff, Int.reduceMul, Int.reduceAdd, Int.reduceSub, Int.reduceToNat, maxLen_eq, zeros_one, appS_some, appV_n, appV_v, appH_t, appH_f, Kd.isEx, ρ27, partV, ρ28, ρ29, hag, hmb, hbm2, hmm2, hmb2, f1]) | (with_reducible first | refine condK_dec (fun _ => ?_) fun _ => ?_ | refine grd_dec (fun _ => ?_) fun _ => ?_ | refine egrd_dec (fun _ => ?_) fun _ => ?_))
        refine appR_own (y := 4 * tp) hlw2 gb4 (by omega) fun K3 k1 k2 k3 => ?_
        have k1' : K3.nx = K2.nx + 2 := k1
        have hB3 : But K2 K3 lw lw := ⟨by omega, fun l h1 h2 _ => (k2 l (by show l < K2.nx + 1; omega) h2).trans (by rw [new_get, if_neg (by omega)])⟩
        have hbm3 := (hB3.ob K1.nx (by omega) (by omega) (by omega)).trans hbm2
        have hb3 := (hB3.ob K.nx (by omega) (by omega) (by omega)).trans hb2
        have hmm3 := (hB3.ob H.nx (by omega) (fun e => hvn.2.2.1 e.symm) (fun e => hvn.2.2.1 e.symm)).trans hmm2
        have hmb3 := (hB3.ob mb (by omega) (fun e => hvn.1 e.symm) (fun e => hvn.1 e.symm)).trans hmb2
        repeat' (first | (simp (disch := first | omega | (decide +kernel) | (repeat first | assumption | exact HExt.refl _ | refine HExt.set ?_ (by first | omega | (simp only [new_nx, set_nx]; omega)) _ | refine HExt.new ?_ _)) only [↓RD, RU, accW_t, accW_f, isW, ↓putF_get, ↓putF_none, ↓evF_t, ↓evF_c, ↓evF_f, new_nx, set_nx, new_get, set_get, getD_zero, getD_succ, u_not, pop, lop, aop, wop, resL, resV, tupleV, akV, isVal, isCell, Value.cells, ρ0, ρ1, ρ2, ρ3, ρ4, ↓reduceIte, Nat.reduceEqDiff, Nat.reduceAdd, Int.reduceOfNat, Int.reduceNegSucc, reduceCtorEq, ρ5, ρ6, ρ7, ρ8, srcR_c, src_n, src_v, src_s, bnd, lenV, capV, ρ9, ρ10, ρ11, ρ12, ρ13, ρ14, ρ15, ρ16, ρ17, ρ18, ρ19, ρ20, ρ21, ρ22, ρ23, ρ24, Kd.isRo, ρ25, ρ26, bldV, Nat.reduceLeDiff, Int.reduceMul, Int.reduceAdd, Int.reduceSub, Int.reduceToNat, maxLen_eq, zeros_one, appS_some, appV_n, appV_v, appH_t, appH_f, Kd.isEx, ρ27, partV, ρ28, ρ29, hag, hmb, hbm3, hmm3, hmb3]) | (with_reducible first | refine condK_dec (fun _ => ?_) fun _ => ?_ | refine grd_dec (fun _ => ?_) fun _ => ?_ | refine egrd_dec (fun _ => ?_) fun _ => ?_))
        have hE2 : HExt H K2 := hB2.ext (((hW.E.trans hxn).trans hx1).trans hxm) hW.lo.2.1 hW.lo.2.2
        have hw3 : Words K3 (some ⟨l1, 0, none⟩) c1 us2 := words_but (words_but (hW1.good hxm) hB2 fun l o e => by cases e; omega) hB3 fun l o e => by cases e; omega
        have hG3 : Grw H 29 1 (ints .u64) K3 (.slice (some ⟨K2.nx + 1, 0, none⟩) (wl.length + 1) (wl.length + 1)) (wl ++ [4 * tp]) := .inr ⟨K2.nx + 1, .gr, by simp, by have := hE2.nx; omega, by omega, by rw [flat_ints]; exact k3, rfl⟩
        have hW4 := WI.step (hM2.of_but hB3 ⟨fun e => hvn.1 e.symm, fun e => hvn.1 e.symm⟩ ⟨fun e => hvn.2.1 e.symm, fun e => hvn.2.1 e.symm⟩) hw3 (fun l o e => by cases e; omega) (by omega) hW.pn hG3 (fun b o n c e => by cases e; exact ⟨by omega, by omega, by omega, fun o' e => by cases e; omega⟩) (by simp) (fun x hx => by
          rcases List.mem_append.1 hx with hx | hx
          · exact hW.wu x hx
          · simp at hx; omega) (hB3.ext hE2 gb1 gb1) ⟨by omega, by omega, by omega⟩ hW.lo
        rw [hul1] at hW4
        have hb4 : (K3.set H.nx (.cells [.slice (some ⟨l1, 0, none⟩) us.length c1, .int .i64 (tp + (8 + st.i))] 24 .ex)).ob K.nx = _ := (set_get.trans (if_neg (by omega))).trans hb3
        have hn4 : K.nx < (K3.set H.nx (.cells [.slice (some ⟨l1, 0, none⟩) us.length c1, .int .i64 (tp + (8 + st.i))] 24 .ex)).nx := by show K.nx < K3.nx; omega
        generalize (K3.set H.nx (.cells [.slice (some ⟨l1, 0, none⟩) us.length c1, .int .i64 (tp + (8 + st.i))] 24 .ex)) = K4 at hW4 hb4 hn4 ⊢
        have hul4 : us2.length = ws.length := hul1.trans hul
        have hwl4 : (wl ++ [4 * tp]).length ≤ sm.length + 1 + (n + 1) := by simp; omega
        rw [← hul1]
        refine (rsame_wp hW4.w.1 hW4.M.words.1 (tp + (8 + st.i)) (tp + (8 + st.i)) (by omega) (by omega)).mono fun v5 K5 ⟨hv5, hx5⟩ => ?_
        rw [dec_t ⟨rfl, rfl⟩] at hv5
        subst hv5
        have hb5 := (hx5.ob _ hn4).trans hb4
        have hm5 := (hx5.ob _ hW4.pl).trans hW4.m
        repeat' (first | (simp (disch := first | omega | (decide +kernel) | (repeat first | assumption | exact HExt.refl _ | refine HExt.set ?_ (by first | omega | (simp only [new_nx, set_nx]; omega)) _ | refine HExt.new ?_ _)) only [↓RD, RU, accW_t, accW_f, isW, ↓putF_get, ↓putF_none, ↓evF_t, ↓evF_c, ↓evF_f, new_nx, set_nx, new_get, set_get, getD_zero, getD_succ, u_not, pop, lop, aop, wop, resL, resV, tupleV, akV, isVal, isCell, Value.cells, ρ0, ρ1, ρ2, ρ3, ρ4, ↓reduceIte, Nat.reduceEqDiff, Nat.reduceAdd, Int.reduceOfNat, Int.reduceNegSucc, reduceCtorEq, ρ5, ρ6, ρ7, ρ8, srcR_c, src_n, src_v, src_s, bnd, lenV, capV, ρ9, ρ10, ρ11, ρ12, ρ13, ρ14, ρ15, ρ16, ρ17, ρ18, ρ19, ρ20, ρ21, ρ22, ρ23, ρ24, Kd.isRo, ρ25, ρ26, bldV, Nat.reduceLeDiff, Int.reduceMul, Int.reduceAdd, Int.reduceSub, Int.reduceToNat, maxLen_eq, zeros_one, appS_some, appV_n, appV_v, appH_t, appH_f, Kd.isEx, ρ27, partV, ρ28, ρ29, hag, hmb, hm5, hb5]) | (with_reducible first | refine condK_dec (fun _ => ?_) fun _ => ?_ | refine grd_dec (fun _ => ?_) fun _ => ?_ | refine egrd_dec (fun _ => ?_) fun _ => ?_))
        refine (asks_wp (hW4.w.good hx5) (tp + (8 + st.i)) f st.i (by omega) hfu hok.hi (by omega)).mono fun v6 K6 ⟨hv6, hx6⟩ => ?_
        subst hv6
        repeat' (first | (simp (disch := first | omega | (decide +kernel) | (repeat first | assumption | exact HExt.refl _ | refine HExt.set ?_ (by first | omega | (simp only [new_nx, set_nx]; omega)) _ | refine HExt.new ?_ _)) only [↓RD, RU, accW_t, accW_f, isW, ↓putF_get, ↓putF_none, ↓evF_t, ↓evF_c, ↓evF_f, new_nx, set_nx, new_get, set_get, getD_zero, getD_succ, u_not, pop, lop, aop, wop, resL, resV, tupleV, akV, isVal, isCell, Value.cells, ρ0, ρ1, ρ2, ρ3, ρ4, ↓reduceIte, Nat.reduceEqDiff, Nat.reduceAdd, Int.reduceOfNat, Int.reduceNegSucc, reduceCtorEq, ρ5, ρ6, ρ7, ρ8, srcR_c, src_n, src_v, src_s, bnd, lenV, capV, ρ9, ρ10, ρ11, ρ12, ρ13, ρ14, ρ15, ρ16, ρ17, ρ18, ρ19, ρ20, ρ21, ρ22, ρ23, ρ24, Kd.isRo, ρ25, ρ26, bldV, Nat.reduceLeDiff, Int.reduceMul, Int.reduceAdd, Int.reduceSub, Int.reduceToNat, maxLen_eq, zeros_one, appS_some, appV_n, appV_v, appH_t, appH_f, Kd.isEx, ρ27, partV, ρ28, ρ29, f8, f1]) | (with_reducible first | refine condK_dec (fun _ => ?_) fun _ => ?_ | refine grd_dec (fun _ => ?_) fun _ => ?_ | refine egrd_dec (fun _ => ?_) fun _ => ?_))
        all_goals exact ⟨100 - (n + 1), by omega, n + 1, us2, (tp + (8 + st.i)), _, _, (wl ++ [4 * tp]), _, rfl, by omega, by omega, rfl, rfl, hW4.mv (hx5.trans hx6), hwl4, hul4⟩
    · rw [hk] at hcs
      have hlm0 := hW.M.lm
      have hlw0 := hW.M.lw
      repeat' (first | (simp (disch := first | omega | (decide +kernel) | (repeat first | assumption | exact HExt.refl _ | refine HExt.set ?_ (by first | omega | (simp only [new_nx, set_nx]; omega)) _ | refine HExt.new ?_ _)) only [↓RD, RU, accW_t, accW_f, isW, ↓putF_get, ↓putF_none, ↓evF_t, ↓evF_c, ↓evF_f, new_nx, set_nx, new_get, set_get, getD_zero, getD_succ, u_not, pop, lop, aop, wop, resL, resV, tupleV, akV, isVal, isCell, Value.cells, ρ0, ρ1, ρ2, ρ3, ρ4, ↓reduceIte, Nat.reduceEqDiff, Nat.reduceAdd, Int.reduceOfNat, Int.reduceNegSucc, reduceCtorEq, ρ5, ρ6, ρ7, ρ8, srcR_c, src_n, src_v, src_s, bnd, lenV, capV, ρ9, ρ10, ρ11, ρ12, ρ13, ρ14, ρ15, ρ16, ρ17, ρ18, ρ19, ρ20, ρ21, ρ22, ρ23, ρ24, Kd.isRo, ρ25, ρ26, bldV, Nat.reduceLeDiff, Int.reduceMul, Int.reduceAdd, Int.reduceSub, Int.reduceToNat, maxLen_eq, zeros_one, appS_some, appV_n, appV_v, appH_t, appH_f, Kd.isEx, ρ27, partV, ρ28, ρ29, f8, f1, hag, hobs, hcs, hobw, hw1, hgf, hw2, hgv, hmm, hpl, hev1, hmb]) | (with_reducible first | refine condK_dec (fun _ => ?_) fun _ => ?_ | refine grd_dec (fun _ => ?_) fun _ => ?_ | refine egrd_dec (fun _ => ?_) fun _ => ?_))
      obtain ⟨Kn, hKn⟩ : ∃ Kn, Kn = ((K.new (.cells [.int .i64 0, .int .i64 0, .int .i64 0, .int .u64 0, .slice none 0 0] 32 .ex)).set K.nx (.cells [.int .i64 1, .int .i64 st.f, .int .i64 st.i, .int .u64 st.w, .slice qv st.lv.length cv] 32 .ex)) := ⟨_, rfl⟩
      have hxn : HExt K Kn := by rw [hKn]; exact ns_ext
      have hnn : Kn.nx = K.nx + 1 := by rw [hKn]; rfl
      have hbn : Kn.ob K.nx = .cells [.int .i64 1, .int .i64 st.f, .int .i64 st.i, .int .u64 st.w, .slice qv st.lv.length cv] 32 .ex := by rw [hKn]; exact ns_ob
      rw [← hKn]
      refine (rsetword_wp (hW.w.good hxn) (by omega) tp f 0 st.i y (by decide) (by omega) hfu hok.hi hyu).mono fun v1 K1 ⟨hx1, p1, c1, hv1, hl1, hW1, hp1⟩ => ?_
      subst hv1
      have hM1 := hW.M.mv (hxn.trans hx1)
      have hn1 := hx1.nx
      have hb1 := (hx1.ob _ (by omega)).trans hbn
      have hm1 := ((hxn.trans hx1).ob _ hpl).trans hmm
      have hp2 : ∀ l o, p1 = some ⟨l, o, none⟩ → l ≠ mb ∧ l ≠ lr ∧ l ≠ H.nx := fun l o e => by
        rcases hp1 l o e with h | ⟨o', h⟩
        · omega
        · exact hW.wn l o' h
      repeat' (first | (simp (disch := first | omega | (decide +kernel) | (repeat first | assumption | exact HExt.refl _ | refine HExt.set ?_ (by first | omega | (simp only [new_nx, set_nx]; omega)) _ | refine HExt.new ?_ _)) only [↓RD, RU, accW_t, accW_f, isW, ↓putF_get, ↓putF_none, ↓evF_t, ↓evF_c, ↓evF_f, new_nx, set_nx, new_get, set_get, getD_zero, getD_succ, u_not, pop, lop, aop, wop, resL, resV, tupleV, akV, isVal, isCell, Value.cells, ρ0, ρ1, ρ2, ρ3, ρ4, ↓reduceIte, Nat.reduceEqDiff, Nat.reduceAdd, Int.reduceOfNat, Int.reduceNegSucc, reduceCtorEq, ρ5, ρ6, ρ7, ρ8, srcR_c, src_n, src_v, src_s, bnd, lenV, capV, ρ9, ρ10, ρ11, ρ12, ρ13, ρ14, ρ15, ρ16, ρ17, ρ18, ρ19, ρ20, ρ21, ρ22, ρ23, ρ24, Kd.isRo, ρ25, ρ26, bldV, Nat.reduceLeDiff, Int.reduceMul, Int.reduceAdd, Int.reduceSub, Int.reduceToNat, maxLen_eq, zeros_one, appS_some, appV_n, appV_v, appH_t, appH_f, Kd.isEx, ρ27, partV, ρ28, ρ29, hag, hmb, hb1, hm1, hpl]) | (with_reducible first | refine condK_dec (fun _ => ?_) fun _ => ?_ | refine grd_dec (fun _ => ?_) fun _ => ?_ | refine egrd_dec (fun _ => ?_) fun _ => ?_))
      obtain ⟨Kp, hKp⟩ : ∃ Kp, Kp = (K1.set H.nx (.cells [.slice p1 us.length c1, .int .i64 tp] 24 .ex)) := ⟨_, rfl⟩
      have hBp : But K1 Kp H.nx H.nx := by rw [hKp]; exact ⟨Nat.le_refl _, fun l _ h1 _ => by rw [set_get, if_neg h1]⟩
      have hnp : Kp.nx = K1.nx := by rw [hKp]; rfl
      have hmp : Kp.ob H.nx = .cells [.slice p1 us.length c1, .int .i64 tp] 24 .ex := by rw [hKp, set_get, if_pos rfl]
      rw [← hKp]
      have hMp := hM1.of_but hBp ⟨fun e => hW.pn.1 e.symm, fun e => hW.pn.1 e.symm⟩ ⟨fun e => hW.pn.2 e.symm, fun e => hW.pn.2 e.symm⟩
      refine (setfield_wp hMp f st.i y hfu hok.hi hyu).mono fun v2 K2 ⟨hv2, hB2, hM2⟩ => ?_
      subst hv2
      have hn2 := hB2.nx
      have hb2 := (hB2.ob K.nx (by omega) (by omega) (by omega)).trans ((hBp.ob K.nx (by omega) (by omega) (by omega)).trans hb1)
      have hm2 := (hB2.ob H.nx (by omega) hW.pn.1 hW.pn.2).trans hmp
      have hmb2 := hM2.hmb
      rw [hl1] at hmb2
      repeat' (first | (simp (disch := first | omega | (decide +kernel) | (repeat first | assumption | exact HExt.refl _ | refine HExt.set ?_ (by first | omega | (simp only [new_nx, set_nx]; omega)) _ | refine HExt.new ?_ _)) only [↓RD, RU, accW_t, accW_f, isW, ↓putF_get, ↓putF_none, ↓evF_t, ↓evF_c, ↓evF_f, new_nx, set_nx, new_get, set_get, getD_zero, getD_succ, u_not, pop, lop, aop, wop, resL, resV, tupleV, akV, isVal, isCell, Value.cells, ρ0, ρ1, ρ2, ρ3, ρ4, ↓reduceIte, Nat.reduceEqDiff, Nat.reduceAdd, Int.reduceOfNat, Int.reduceNegSucc, reduceCtorEq, ρ5, ρ6, ρ7, ρ8, srcR_c, src_n, src_v, src_s, bnd, lenV, capV, ρ9, ρ10, ρ11, ρ12, ρ13, ρ14, ρ15, ρ16, ρ17, ρ18, ρ19, ρ20, ρ21, ρ22, ρ23, ρ24, Kd.isRo, ρ25, ρ26, bldV, Nat.reduceLeDiff, Int.reduceMul, Int.reduceAdd, Int.reduceSub, Int.reduceToNat, maxLen_eq, zeros_one, appS_some, appV_n, appV_v, appH_t, appH_f, Kd.isEx, ρ27, partV, ρ28, ρ29, hag, hmb, hm2, hmb2]) | (with_reducible first | refine condK_dec (fun _ => ?_) fun _ => ?_ | refine grd_dec (fun _ => ?_) fun _ => ?_ | refine egrd_dec (fun _ => ?_) fun _ => ?_))
      have hw2 : Words K2 p1 c1 (setW us tp f 0 st.i y) := words_but (words_but hW1 hBp fun l o e => ⟨(hp2 l o e).2.2, (hp2 l o e).2.2⟩) hB2 fun l o e => ⟨(hp2 l o e).1, (hp2 l o e).2.1⟩
      have hG2 := grw_but (grw_but (hW.G.ext (hxn.trans hx1)) hBp (fun o n c e => (hW.vn _ o n c e).2.2.1 rfl) (fun o n c e => (hW.vn _ o n c e).2.2.1 rfl)) hB2 (fun o n c e => (hW.vn _ o n c e).1 rfl) (fun o n c e => (hW.vn _ o n c e).2.1 rfl)
      have hE2 : HExt H K2 := hB2.ext (hBp.ext ((hW.E.trans hxn).trans hx1) hW.lo.1 hW.lo.1) hW.lo.2.1 hW.lo.2.2
      rw [← hl1] at hm2
      have hW4 : WI H K2 H.nx mb lr cr kr (setW us tp f 0 st.i y) tp p1 c1 wl _ := ⟨hm2, by omega, hw2, hp2, hM2, hW.pn, hG2, fun b o n c e => ⟨(hW.vn b o n c e).1, (hW.vn b o n c e).2.1, (hW.vn b o n c e).2.2.1, fun o' e' => by
        rcases hp1 b o' e' with h | ⟨o2, h⟩
        · cases e; omega
        · exact (hW.vn b o n c e).2.2.2 o2 h⟩, hW.ne, hW.wu, hE2, by rw [hl1]; exact hW.tp, hW.lo⟩
      have hb4 := hb2
      have hn4 : K.nx < K2.nx := by omega
      have hul4 : (setW us tp f 0 st.i y).length = ws.length := hl1.trans hul
      have hwl4 : wl.length ≤ sm.length + 1 + (n + 1) := by omega
      rw [← hl1]
      refine (rsame_wp hW4.w.1 hW4.M.words.1 tp tp (by omega) (by omega)).mono fun v5 K5 ⟨hv5, hx5⟩ => ?_
      rw [dec_t ⟨rfl, rfl⟩] at hv5
      subst hv5
      have hb5 := (hx5.ob _ hn4).trans hb4
      have hm5 := (hx5.ob _ hW4.pl).trans hW4.m
      repeat' (first | (simp (disch := first | omega | (decide +kernel) | (repeat first | assumption | exact HExt.refl _ | refine HExt.set ?_ (by first | omega | (simp only [new_nx, set_nx]; omega)) _ | refine HExt.new ?_ _)) only [↓RD, RU, accW_t, accW_f, isW, ↓putF_get, ↓putF_none, ↓evF_t, ↓evF_c, ↓evF_f, new_nx, set_nx, new_get, set_get, getD_zero, getD_succ, u_not, pop, lop, aop, wop, resL, resV, tupleV, akV, isVal, isCell, Value.cells, ρ0, ρ1, ρ2, ρ3, ρ4, ↓reduceIte, Nat.reduceEqDiff, Nat.reduceAdd, Int.reduceOfNat, Int.reduceNegSucc, reduceCtorEq, ρ5, ρ6, ρ7, ρ8, srcR_c, src_n, src_v, src_s, bnd, lenV, capV, ρ9, ρ10, ρ11, ρ12, ρ13, ρ14, ρ15, ρ16, ρ17, ρ18, ρ19, ρ20, ρ21, ρ22, ρ23, ρ24, Kd.isRo, ρ25, ρ26, bldV, Nat.reduceLeDiff, Int.reduceMul, Int.reduceAdd, Int.reduceSub, Int.reduceToNat, maxLen_eq, zeros_one, appS_some, appV_n, appV_v, appH_t, appH_f, Kd.isEx, ρ27, partV, ρ28, ρ29, hag, hmb, hm5, hb5]) | (with_reducible first | refine condK_dec (fun _ => ?_) fun _ => ?_ | refine grd_dec (fun _ => ?_) fun _ => ?_ | refine egrd_dec (fun _ => ?_) fun _ => ?_))
      refine (asks_wp (hW4.w.good hx5) tp f st.i (by omega) hfu hok.hi (by omega)).mono fun v6 K6 ⟨hv6, hx6⟩ => ?_
      subst hv6
      repeat' (first | (simp (disch := first | omega | (decide +kernel) | (repeat first | assumption | exact HExt.refl _ | refine HExt.set ?_ (by first | omega | (simp only [new_nx, set_nx]; omega)) _ | refine HExt.new ?_ _)) only [↓RD, RU, accW_t, accW_f, isW, ↓putF_get, ↓putF_none, ↓evF_t, ↓evF_c, ↓evF_f, new_nx, set_nx, new_get, set_get, getD_zero, getD_succ, u_not, pop, lop, aop, wop, resL, resV, tupleV, akV, isVal, isCell, Value.cells, ρ0, ρ1, ρ2, ρ3, ρ4, ↓reduceIte, Nat.reduceEqDiff, Nat.reduceAdd, Int.reduceOfNat, Int.reduceNegSucc, reduceCtorEq, ρ5, ρ6, ρ7, ρ8, srcR_c, src_n, src_v, src_s, bnd, lenV, capV, ρ9, ρ10, ρ11, ρ12, ρ13, ρ14, ρ15, ρ16, ρ17, ρ18, ρ19, ρ20, ρ21, ρ22, ρ23, ρ24, Kd.isRo, ρ25, ρ26, bldV, Nat.reduceLeDiff, Int.reduceMul, Int.reduceAdd, Int.reduceSub, Int.reduceToNat, maxLen_eq, zeros_one, appS_some, appV_n, appV_v, appH_t, appH_f, Kd.isEx, ρ27, partV, ρ28, ρ29, f8, f1]) | (with_reducible first | refine condK_dec (fun _ => ?_) fun _ => ?_ | refine grd_dec (fun _ => ?_) fun _ => ?_ | refine egrd_dec (fun _ => ?_) fun _ => ?_))
      all_goals exact ⟨100 - (n + 1), by omega, n + 1, (setW us tp f 0 st.i y), tp, p1, c1, wl, _, rfl, by omega, by omega, rfl, rfl, hW4.mv (hx5.trans hx6), hwl4, hul4⟩
    · rw [hk] at hcs
      have hlm0 := hW.M.lm
      have hlw0 := hW.M.lw
      repeat' (first | (simp (disch := first | omega | (decide +kernel) | (repeat first | assumption | exact HExt.refl _ | refine HExt.set ?_ (by first | omega | (simp only [new_nx, set_nx]; omega)) _ | refine HExt.new ?_ _)) only [↓RD, RU, accW_t, accW_f, isW, ↓putF_get, ↓putF_none, ↓evF_t, ↓evF_c, ↓evF_f, new_nx, set_nx, new_get, set_get, getD_zero, getD_succ, u_not, pop, lop, aop, wop, resL, resV, tupleV, akV, isVal, isCell, Value.cells, ρ0, ρ1, ρ2, ρ3, ρ4, ↓reduceIte, Nat.reduceEqDiff, Nat.reduceAdd, Int.reduceOfNat, Int.reduceNegSucc, reduceCtorEq, ρ5, ρ6, ρ7, ρ8, srcR_c, src_n, src_v, src_s, bnd, lenV, capV, ρ9, ρ10, ρ11, ρ12, ρ13, ρ14, ρ15, ρ16, ρ17, ρ18, ρ19, ρ20, ρ21, ρ22, ρ23, ρ24, Kd.isRo, ρ25, ρ26, bldV, Nat.reduceLeDiff, Int.reduceMul, Int.reduceAdd, Int.reduceSub, Int.reduceToNat, maxLen_eq, zeros_one, appS_some, appV_n, appV_v, appH_t, appH_f, Kd.isEx, ρ27, partV, ρ28, ρ29, f8, f1, hag, hobs, hcs, hobw, hw1, hgf, hw2, hgv, hmm, hpl, hev1, hmb]) | (with_reducible first | refine condK_dec (fun _ => ?_) fun _ => ?_ | refine grd_dec (fun _ => ?_) fun _ => ?_ | refine egrd_dec (fun _ => ?_) fun _ => ?_))
      obtain ⟨Kn, hKn⟩ : ∃ Kn, Kn = ((K.new (.cells [.int .i64 0, .int .i64 0, .int .i64 0, .int .u64 0, .slice none 0 0] 32 .ex)).set K.nx (.cells [.int .i64 2, .int .i64 st.f, .int .i64 st.i, .int .u64 st.w, .slice qv st.lv.length cv] 32 .ex)) := ⟨_, rfl⟩
      have hxn : HExt K Kn := by rw [hKn]; exact ns_ext
      have hnn : Kn.nx = K.nx + 1 := by rw [hKn]; rfl
      have hbn : Kn.ob K.nx = .cells [.int .i64 2, .int .i64 st.f, .int .i64 st.i, .int .u64 st.w, .slice qv st.lv.length cv] 32 .ex := by rw [hKn]; exact ns_ob
      rw [← hKn]
      refine (rsetword_wp (hW.w.good hxn) (by omega) tp f 6 st.i y (by decide) (by omega) hfu hok.hi hyu).mono fun v1 K1 ⟨hx1, p1, c1, hv1, hl1, hW1, hp1⟩ => ?_
      subst hv1
      have hM1 := hW.M.mv (hxn.trans hx1)
      have hn1 := hx1.nx
      have hb1 := (hx1.ob _ (by omega)).trans hbn
      have hm1 := ((hxn.trans hx1).ob _ hpl).trans hmm
      have hp2 : ∀ l o, p1 = some ⟨l, o, none⟩ → l ≠ mb ∧ l ≠ lr ∧ l ≠ H.nx := fun l o e => by
        rcases hp1 l o e with h | ⟨o', h⟩
        · omega
        · exact hW.wn l o' h
      repeat' (first | (simp (disch := first | omega | (decide +kernel) | (repeat first | assumption | exact HExt.refl _ | refine HExt.set ?_ (by first | omega | (simp only [new_nx, set_nx]; omega)) _ | refine HExt.new ?_ _)) only [↓RD, RU, accW_t, accW_f, isW, ↓putF_get, ↓putF_none, ↓evF_t, ↓evF_c, ↓evF_f, new_nx, set_nx, new_get, set_get, getD_zero, getD_succ, u_not, pop, lop, aop, wop, resL, resV, tupleV, akV, isVal, isCell, Value.cells, ρ0, ρ1, ρ2, ρ3, ρ4, ↓reduceIte, Nat.reduceEqDiff, Nat.reduceAdd, Int.reduceOfNat, Int.reduceNegSucc, reduceCtorEq, ρ5, ρ6, ρ7, ρ8, srcR_c, src_n, src_v, src_s, bnd, lenV, capV, ρ9, ρ10, ρ11, ρ12, ρ13, ρ14, ρ15, ρ16, ρ17, ρ18, ρ19, ρ20, ρ21, ρ22, ρ23, ρ24, Kd.isRo, ρ25, ρ26, bldV, Nat.reduceLeDiff, Int.reduceMul, Int.reduceAdd, Int.reduceSub, Int.reduceToNat, maxLen_eq, zeros_one, appS_some, appV_n, appV_v, appH_t, appH_f, Kd.isEx, ρ27, partV, ρ28, ρ29, hag, hmb, hb1, hm1, hpl]) | (with_reducible first | refine condK_dec (fun _ => ?_) fun _ => ?_ | refine grd_dec (fun _ => ?_) fun _ => ?_ | refine egrd_dec (fun _ => ?_) fun _ => ?_))
      obtain ⟨Kp, hKp⟩ : ∃ Kp, Kp = (K1.set H.nx (.cells [.slice p1 us.length c1, .int .i64 tp] 24 .ex)) := ⟨_, rfl⟩
      have hBp : But K1 Kp H.nx H.nx := by rw [hKp]; exact ⟨Nat.le_refl _, fun l _ h1 _ => by rw [set_get, if_neg h1]⟩
      have hnp : Kp.nx = K1.nx := by rw [hKp]; rfl
      have hmp : Kp.ob H.nx = .cells [.slice p1 us.length c1, .int .i64 tp] 24 .ex := by rw [hKp, set_get, if_pos rfl]
      rw [← hKp]
      have hMp := hM1.of_but hBp ⟨fun e => hW.pn.1 e.symm, fun e => hW.pn.1 e.symm⟩ ⟨fun e => hW.pn.2 e.symm, fun e => hW.pn.2 e.symm⟩
      refine (setreg_wp hMp f st.i y hfu hok.hi hyu).mono fun v2 K2 ⟨hv2, hB2, hM2⟩ => ?_
      subst hv2
      have hn2 := hB2.nx
      have hb2 := (hB2.ob K.nx (by omega) (by omega) (by omega)).trans ((hBp.ob K.nx (by omega) (by omega) (by omega)).trans hb1)
      have hm2 := (hB2.ob H.nx (by omega) hW.pn.1 hW.pn.2).trans hmp
      have hmb2 := hM2.hmb
      rw [hl1] at hmb2
      repeat' (first | (simp (disch := first | omega | (decide +kernel) | (repeat first | assumption | exact HExt.refl _ | refine HExt.set ?_ (by first | omega | (simp only [new_nx, set_nx]; omega)) _ | refine HExt.new ?_ _)) only [↓RD, RU, accW_t, accW_f, isW, ↓putF_get, ↓putF_none, ↓evF_t, ↓evF_c, ↓evF_f, new_nx, set_nx, new_get, set_get, getD_zero, getD_succ, u_not, pop, lop, aop, wop, resL, resV, tupleV, akV, isVal, isCell, Value.cells, ρ0, ρ1, ρ2, ρ3, ρ4, ↓reduceIte, Nat.reduceEqDiff, Nat.reduceAdd, Int.reduceOfNat, Int.reduceNegSucc, reduceCtorEq, ρ5, ρ6, ρ7, ρ8, srcR_c, src_n, src_v, src_s, bnd, lenV, capV, ρ9, ρ10, ρ11, ρ12, ρ13, ρ14, ρ15, ρ16, ρ17, ρ18, ρ19, ρ20, ρ21, ρ22, ρ23, ρ24, Kd.isRo, ρ25, ρ26, bldV, Nat.reduceLeDiff, Int.reduceMul, Int.reduceAdd, Int.reduceSub, Int.reduceToNat, maxLen_eq, zeros_one, appS_some, appV_n, appV_v, appH_t, appH_f, Kd.isEx, ρ27, partV, ρ28, ρ29, hag, hmb, hm2, hmb2]) | (with_reducible first | refine condK_dec (fun _ => ?_) fun _ => ?_ | refine grd_dec (fun _ => ?_) fun _ => ?_ | refine egrd_dec (fun _ => ?_) fun _ => ?_))
      have hw2 : Words K2 p1 c1 (setW us tp f 6 st.i y) := words_but (words_but hW1 hBp fun l o e => ⟨(hp2 l o e).2.2, (hp2 l o e).2.2⟩) hB2 fun l o e => ⟨(hp2 l o e).1, (hp2 l o e).2.1⟩
      have hG2 := grw_but (grw_but (hW.G.ext (hxn.trans hx1)) hBp (fun o n c e => (hW.vn _ o n c e).2.2.1 rfl) (fun o n c e => (hW.vn _ o n c e).2.2.1 rfl)) hB2 (fun o n c e => (hW.vn _ o n c e).1 rfl) (fun o n c e => (hW.vn _ o n c e).2.1 rfl)
      have hE2 : HExt H K2 := hB2.ext (hBp.ext ((hW.E.trans hxn).trans hx1) hW.lo.1 hW.lo.1) hW.lo.2.1 hW.lo.2.2
      rw [← hl1] at hm2
      have hW4 : WI H K2 H.nx mb lr cr kr (setW us tp f 6 st.i y) tp p1 c1 wl _ := ⟨hm2, by omega, hw2, hp2, hM2, hW.pn, hG2, fun b o n c e => ⟨(hW.vn b o n c e).1, (hW.vn b o n c e).2.1, (hW.vn b o n c e).2.2.1, fun o' e' => by
        rcases hp1 b o' e' with h | ⟨o2, h⟩
        · cases e; omega
        · exact (hW.vn b o n c e).2.2.2 o2 h⟩, hW.ne, hW.wu, hE2, by rw [hl1]; exact hW.tp, hW.lo⟩
      have hb4 := hb2
      have hn4 : K.nx < K2.nx := by omega
      have hul4 : (setW us tp f 6 st.i y).length = ws.length := hl1.trans hul
      have hwl4 : wl.length ≤ sm.length + 1 + (n + 1) := by omega
      rw [← hl1]
      refine (rsame_wp hW4.w.1 hW4.M.words.1 tp tp (by omega) (by omega)).mono fun v5 K5 ⟨hv5, hx5⟩ => ?_
      rw [dec_t ⟨rfl, rfl⟩] at hv5
      subst hv5
      have hb5 := (hx5.ob _ hn4).trans hb4
      have hm5 := (hx5.ob _ hW4.pl).trans hW4.m
      repeat' (first | (simp (disch := first | omega | (decide +kernel) | (repeat first | assumption | exact HExt.refl _ | refine HExt.set ?_ (by first | omega | (simp only [new_nx, set_nx]; omega)) _ | refine HExt.new ?_ _)) only [↓RD, RU, accW_t, accW_f, isW, ↓putF_get, ↓putF_none, ↓evF_t, ↓evF_c, ↓evF_f, new_nx, set_nx, new_get, set_get, getD_zero, getD_succ, u_not, pop, lop, aop, wop, resL, resV, tupleV, akV, isVal, isCell, Value.cells, ρ0, ρ1, ρ2, ρ3, ρ4, ↓reduceIte, Nat.reduceEqDiff, Nat.reduceAdd, Int.reduceOfNat, Int.reduceNegSucc, reduceCtorEq, ρ5, ρ6, ρ7, ρ8, srcR_c, src_n, src_v, src_s, bnd, lenV, capV, ρ9, ρ10, ρ11, ρ12, ρ13, ρ14, ρ15, ρ16, ρ17, ρ18, ρ19, ρ20, ρ21, ρ22, ρ23, ρ24, Kd.isRo, ρ25, ρ26, bldV, Nat.reduceLeDiff, Int.reduceMul, Int.reduceAdd, Int.reduceSub, Int.reduceToNat, maxLen_eq, zeros_one, appS_some, appV_n, appV_v, appH_t, appH_f, Kd.isEx, ρ27, partV, ρ28, ρ29, hag, hmb, hm5, hb5]) | (with_reducible first | refine condK_dec (fun _ => ?_) fun _ => ?_ | refine grd_dec (fun _ => ?_) fun _ => ?_ | refine egrd_dec (fun _ => ?_) fun _ => ?_))
      refine (asks_wp (hW4.w.good hx5) tp f st.i (by omega) hfu hok.hi (by omega)).mono fun v6 K6 ⟨hv6, hx6⟩ => ?_
      subst hv6
      repeat' (first | (simp (disch := first | omega | (decide +kernel) | (repeat first | assumption | exact HExt.refl _ | refine HExt.set ?_ (by first | omega | (simp only [new_nx, set_nx]; omega)) _ | refine HExt.new ?_ _)) only [↓RD, RU, accW_t, accW_f, isW, ↓putF_get, ↓putF_none, ↓evF_t, ↓evF_c, ↓evF_f, new_nx, set_nx, new_get, set_get, getD_zero, getD_succ, u_not, pop, lop, aop, wop, resL, resV, tupleV, akV, isVal, isCell, Value.cells, ρ0, ρ1, ρ2, ρ3, ρ4, ↓reduceIte, Nat.reduceEqDiff, Nat.reduceAdd, Int.reduceOfNat, Int.reduceNegSucc, reduceCtorEq, ρ5, ρ6, ρ7, ρ8, srcR_c, src_n, src_v, src_s, bnd, lenV, capV, ρ9, ρ10, ρ11, ρ12, ρ13, ρ14, ρ15, ρ16, ρ17, ρ18, ρ19, ρ20, ρ21, ρ22, ρ23, ρ24, Kd.isRo, ρ25, ρ26, bldV, Nat.reduceLeDiff, Int.reduceMul, Int.reduceAdd, Int.reduceSub, Int.reduceToNat, maxLen_eq, zeros_one, appS_some, appV_n, appV_v, appH_t, appH_f, Kd.isEx, ρ27, partV, ρ28, ρ29, f8, f1]) | (with_reducible first | refine condK_dec (fun _ => ?_) fun _ => ?_ | refine grd_dec (fun _ => ?_) fun _ => ?_ | refine egrd_dec (fun _ => ?_) fun _ => ?_))
      all_goals exact ⟨100 - (n + 1), by omega, n + 1, (setW us tp f 6 st.i y), tp, p1, c1, wl, _, rfl, by omega, by omega, rfl, rfl, hW4.mv (hx5.trans hx6), hwl4, hul4⟩
    · rw [hk] at hcs
      obtain ⟨lvN, hlvl, hlvw⟩ := wat_of hsvH
      rw [← hlvl] at hcs
      have hlvN : lvN.length ≤ 17592186044416 := by omega
      have hlq : ∀ x o, qv = some ⟨x, o, none⟩ → x ≠ mb ∧ x ≠ lr := fun x o e => by
        rcases hsvH with ⟨_, _, h | h | h⟩ | ⟨l', o', os, e', k, h, hl', _⟩
        · rw [h] at e; cases e
        · rw [h] at e; cases e
        · rw [h] at e; cases e
        · rw [h] at e; cases e
          have := hW.lo
          omega
      have hlm0 := hW.M.lm
      have hlw0 := hW.M.lw
      repeat' (first | (simp (disch := first | omega | (decide +kernel) | (repeat first | assumption | exact HExt.refl _ | refine HExt.set ?_ (by first | omega | (simp only [new_nx, set_nx]; omega)) _ | refine HExt.new ?_ _)) only [↓RD, RU, accW_t, accW_f, isW, ↓putF_get, ↓putF_none, ↓evF_t, ↓evF_c, ↓evF_f, new_nx, set_nx, new_get, set_get, getD_zero, getD_succ, u_not, pop, lop, aop, wop, resL, resV, tupleV, akV, isVal, isCell, Value.cells, ρ0, ρ1, ρ2, ρ3, ρ4, ↓reduceIte, Nat.reduceEqDiff, Nat.reduceAdd, Int.reduceOfNat, Int.reduceNegSucc, reduceCtorEq, ρ5, ρ6, ρ7, ρ8, srcR_c, src_n, src_v, src_s, bnd, lenV, capV, ρ9, ρ10, ρ11, ρ12, ρ13, ρ14, ρ15, ρ16, ρ17, ρ18, ρ19, ρ20, ρ21, ρ22, ρ23, ρ24, Kd.isRo, ρ25, ρ26, bldV, Nat.reduceLeDiff, Int.reduceMul, Int.reduceAdd, Int.reduceSub, Int.reduceToNat, maxLen_eq, zeros_one, appS_some, appV_n, appV_v, appH_t, appH_f, Kd.isEx, ρ27, partV, ρ28, ρ29, f8, f1, hag, hobs, hcs, hobw, hw1, hgf, hw2, hgv, hmm, hpl, hev1, hmb]) | (with_reducible first | refine condK_dec (fun _ => ?_) fun _ => ?_ | refine grd_dec (fun _ => ?_) fun _ => ?_ | refine egrd_dec (fun _ => ?_) fun _ => ?_))
      obtain ⟨Kn, hKn⟩ : ∃ Kn, Kn = ((K.new (.cells [.int .i64 0, .int .i64 0, .int .i64 0, .int .u64 0, .slice none 0 0] 32 .ex)).set K.nx (.cells [.int .i64 3, .int .i64 st.f, .int .i64 st.i, .int .u64 st.w, .slice qv lvN.length cv] 32 .ex)) := ⟨_, rfl⟩
      have hxn : HExt K Kn := by rw [hKn]; exact ns_ext
      have hnn : Kn.nx = K.nx + 1 := by rw [hKn]; rfl
      have hbn : Kn.ob K.nx = .cells [.int .i64 3, .int .i64 st.f, .int .i64 st.i, .int .u64 st.w, .slice qv lvN.length cv] 32 .ex := by rw [hKn]; exact ns_ob
      rw [← hKn]
      refine (rclear_wp (hW.w.good hxn) (by omega) ((hlvw.good hW.E).good hxn) hlvN tp f (by omega) hfu).mono fun v1 K1 ⟨us1, hus1, hx1, p1, c1, hv1, hl1, hW1, hp1⟩ => ?_
      subst hv1
      have hM1 := hW.M.mv (hxn.trans hx1)
      have hn1 := hx1.nx
      have hb1 := (hx1.ob _ (by omega)).trans hbn
      have hm1 := ((hxn.trans hx1).ob _ hpl).trans hmm
      have hp2 : ∀ l o, p1 = some ⟨l, o, none⟩ → l ≠ mb ∧ l ≠ lr ∧ l ≠ H.nx := fun l o e => by
        rcases hp1 l o e with h | ⟨o', h⟩
        · omega
        · exact hW.wn l o' h
      obtain ⟨eF, heF⟩ : ∃ eF : Int, (if isFr us tp f = true then 0 else 1) = eF := ⟨_, rfl⟩
      rw [heF]
      repeat' (first | (simp (disch := first | omega | (decide +kernel) | (repeat first | assumption | exact HExt.refl _ | refine HExt.set ?_ (by first | omega | (simp only [new_nx, set_nx]; omega)) _ | refine HExt.new ?_ _)) only [↓RD, RU, accW_t, accW_f, isW, ↓putF_get, ↓putF_none, ↓evF_t, ↓evF_c, ↓evF_f, new_nx, set_nx, new_get, set_get, getD_zero, getD_succ, u_not, pop, lop, aop, wop, resL, resV, tupleV, akV, isVal, isCell, Value.cells, ρ0, ρ1, ρ2, ρ3, ρ4, ↓reduceIte, Nat.reduceEqDiff, Nat.reduceAdd, Int.reduceOfNat, Int.reduceNegSucc, reduceCtorEq, ρ5, ρ6, ρ7, ρ8, srcR_c, src_n, src_v, src_s, bnd, lenV, capV, ρ9, ρ10, ρ11, ρ12, ρ13, ρ14, ρ15, ρ16, ρ17, ρ18, ρ19, ρ20, ρ21, ρ22, ρ23, ρ24, Kd.isRo, ρ25, ρ26, bldV, Nat.reduceLeDiff, Int.reduceMul, Int.reduceAdd, Int.reduceSub, Int.reduceToNat, maxLen_eq, zeros_one, appS_some, appV_n, appV_v, appH_t, appH_f, Kd.isEx, ρ27, partV, ρ28, ρ29, hag, hmb, hb1, hm1, hpl]) | (with_reducible first | refine condK_dec (fun _ => ?_) fun _ => ?_ | refine grd_dec (fun _ => ?_) fun _ => ?_ | refine egrd_dec (fun _ => ?_) fun _ => ?_))
      obtain ⟨Kp, hKp⟩ : ∃ Kp, Kp = (K1.set H.nx (.cells [.slice p1 us.length c1, .int .i64 tp] 24 .ex)) := ⟨_, rfl⟩
      have hBp : But K1 Kp H.nx H.nx := by rw [hKp]; exact ⟨Nat.le_refl _, fun l _ h1 _ => by rw [set_get, if_neg h1]⟩
      have hnp : Kp.nx = K1.nx := by rw [hKp]; rfl
      have hmp : Kp.ob H.nx = .cells [.slice p1 us.length c1, .int .i64 tp] 24 .ex := by rw [hKp, set_get, if_pos rfl]
      rw [← hKp]
      have hMp := hM1.of_but hBp ⟨fun e => hW.pn.1 e.symm, fun e => hW.pn.1 e.symm⟩ ⟨fun e => hW.pn.2 e.symm, fun e => hW.pn.2 e.symm⟩
      have hnH := hW.E.nx
      have hlvp : WAt Kp qv cv lvN := hlvw.good (hBp.ext ((hW.E.trans hxn).trans hx1) hW.lo.1 hW.lo.1)
      refine (clear_wp hMp hlvp hlq hlvN f hfu).mono fun v2 K2 ⟨hv2, hB2, us2, hM2, hus2⟩ => ?_
      have hue : us2 = us1 := by
        by_cases h : isFr us tp f = true
        · rw [if_pos h] at hus1 hus2; exact clI_eq hus2 hus1
        · rw [if_neg h] at hus1 hus2; exact hus2.trans hus1.symm
      subst hue
      rw [heF] at hv2
      subst hv2
      have hn2 := hB2.nx
      have hb2 := (hB2.ob K.nx (by omega) (by omega) (by omega)).trans ((hBp.ob K.nx (by omega) (by omega) (by omega)).trans hb1)
      have hm2 := (hB2.ob H.nx (by omega) hW.pn.1 hW.pn.2).trans hmp
      have hmb2 := hM2.hmb
      rw [hl1] at hmb2
      repeat' (first | (simp (disch := first | omega | (decide +kernel) | (repeat first | assumption | exact HExt.refl _ | refine HExt.set ?_ (by first | omega | (simp only [new_nx, set_nx]; omega)) _ | refine HExt.new ?_ _)) only [↓RD, RU, accW_t, accW_f, isW, ↓putF_get, ↓putF_none, ↓evF_t, ↓evF_c, ↓evF_f, new_nx, set_nx, new_get, set_get, getD_zero, getD_succ, u_not, pop, lop, aop, wop, resL, resV, tupleV, akV, isVal, isCell, Value.cells, ρ0, ρ1, ρ2, ρ3, ρ4, ↓reduceIte, Nat.reduceEqDiff, Nat.reduceAdd, Int.reduceOfNat, Int.reduceNegSucc, reduceCtorEq, ρ5, ρ6, ρ7, ρ8, srcR_c, src_n, src_v, src_s, bnd, lenV, capV, ρ9, ρ10, ρ11, ρ12, ρ13, ρ14, ρ15, ρ16, ρ17, ρ18, ρ19, ρ20, ρ21, ρ22, ρ23, ρ24, Kd.isRo, ρ25, ρ26, bldV, Nat.reduceLeDiff, Int.reduceMul, Int.reduceAdd, Int.reduceSub, Int.reduceToNat, maxLen_eq, zeros_one, appS_some, appV_n, appV_v, appH_t, appH_f, Kd.isEx, ρ27, partV, ρ28, ρ29, hag, hmb, hm2, hmb2]) | (with_reducible first | refine condK_dec (fun _ => ?_) fun _ => ?_ | refine grd_dec (fun _ => ?_) fun _ => ?_ | refine egrd_dec (fun _ => ?_) fun _ => ?_))
      have hw2 : Words K2 p1 c1 us2 := words_but (words_but hW1 hBp fun l o e => ⟨(hp2 l o e).2.2, (hp2 l o e).2.2⟩) hB2 fun l o e => ⟨(hp2 l o e).1, (hp2 l o e).2.1⟩
      have hG2 := grw_but (grw_but (hW.G.ext (hxn.trans hx1)) hBp (fun o n c e => (hW.vn _ o n c e).2.2.1 rfl) (fun o n c e => (hW.vn _ o n c e).2.2.1 rfl)) hB2 (fun o n c e => (hW.vn _ o n c e).1 rfl) (fun o n c e => (hW.vn _ o n c e).2.1 rfl)
      have hE2 : HExt H K2 := hB2.ext (hBp.ext ((hW.E.trans hxn).trans hx1) hW.lo.1 hW.lo.1) hW.lo.2.1 hW.lo.2.2
      rw [← hl1] at hm2
      have hW4 : WI H K2 H.nx mb lr cr kr us2 tp p1 c1 wl _ := ⟨hm2, by omega, hw2, hp2, hM2, hW.pn, hG2, fun b o n c e => ⟨(hW.vn b o n c e).1, (hW.vn b o n c e).2.1, (hW.vn b o n c e).2.2.1, fun o' e' => by
        rcases hp1 b o' e' with h | ⟨o2, h⟩
        · cases e; omega
        · exact (hW.vn b o n c e).2.2.2 o2 h⟩, hW.ne, hW.wu, hE2, by rw [hl1]; exact hW.tp, hW.lo⟩
      have hb4 := hb2
      have hn4 : K.nx < K2.nx := by omega
      have hul4 : us2.length = ws.length := hl1.trans hul
      have hwl4 : wl.length ≤ sm.length + 1 + (n + 1) := by omega
      rw [← hl1]
      refine (rsame_wp hW4.w.1 hW4.M.words.1 tp tp (by omega) (by omega)).mono fun v5 K5 ⟨hv5, hx5⟩ => ?_
      rw [dec_t ⟨rfl, rfl⟩] at hv5
      subst hv5
      have hb5 := (hx5.ob _ hn4).trans hb4
      have hm5 := (hx5.ob _ hW4.pl).trans hW4.m
      repeat' (first | (simp (disch := first | omega | (decide +kernel) | (repeat first | assumption | exact HExt.refl _ | refine HExt.set ?_ (by first | omega | (simp only [new_nx, set_nx]; omega)) _ | refine HExt.new ?_ _)) only [↓RD, RU, accW_t, accW_f, isW, ↓putF_get, ↓putF_none, ↓evF_t, ↓evF_c, ↓evF_f, new_nx, set_nx, new_get, set_get, getD_zero, getD_succ, u_not, pop, lop, aop, wop, resL, resV, tupleV, akV, isVal, isCell, Value.cells, ρ0, ρ1, ρ2, ρ3, ρ4, ↓reduceIte, Nat.reduceEqDiff, Nat.reduceAdd, Int.reduceOfNat, Int.reduceNegSucc, reduceCtorEq, ρ5, ρ6, ρ7, ρ8, srcR_c, src_n, src_v, src_s, bnd, lenV, capV, ρ9, ρ10, ρ11, ρ12, ρ13, ρ14, ρ15, ρ16, ρ17, ρ18, ρ19, ρ20, ρ21, ρ22, ρ23, ρ24, Kd.isRo, ρ25, ρ26, bldV, Nat.reduceLeDiff, Int.reduceMul, Int.reduceAdd, Int.reduceSub, Int.reduceToNat, maxLen_eq, zeros_one, appS_some, appV_n, appV_v, appH_t, appH_f, Kd.isEx, ρ27, partV, ρ28, ρ29, hag, hmb, hm5, hb5]) | (with_reducible first | refine condK_dec (fun _ => ?_) fun _ => ?_ | refine grd_dec (fun _ => ?_) fun _ => ?_ | refine egrd_dec (fun _ => ?_) fun _ => ?_))
      refine (asks_wp (hW4.w.good hx5) tp f st.i (by omega) hfu hok.hi (by omega)).mono fun v6 K6 ⟨hv6, hx6⟩ => ?_
      subst hv6
      repeat' (first | (simp (disch := first | omega | (decide +kernel) | (repeat first | assumption | exact HExt.refl _ | refine HExt.set ?_ (by first | omega | (simp only [new_nx, set_nx]; omega)) _ | refine HExt.new ?_ _)) only [↓RD, RU, accW_t, accW_f, isW, ↓putF_get, ↓putF_none, ↓evF_t, ↓evF_c, ↓evF_f, new_nx, set_nx, new_get, set_get, getD_zero, getD_succ, u_not, pop, lop, aop, wop, resL, resV, tupleV, akV, isVal, isCell, Value.cells, ρ0, ρ1, ρ2, ρ3, ρ4, ↓reduceIte, Nat.reduceEqDiff, Nat.reduceAdd, Int.reduceOfNat, Int.reduceNegSucc, reduceCtorEq, ρ5, ρ6, ρ7, ρ8, srcR_c, src_n, src_v, src_s, bnd, lenV, capV, ρ9, ρ10, ρ11, ρ12, ρ13, ρ14, ρ15, ρ16, ρ17, ρ18, ρ19, ρ20, ρ21, ρ22, ρ23, ρ24, Kd.isRo, ρ25, ρ26, bldV, Nat.reduceLeDiff, Int.reduceMul, Int.reduceAdd, Int.reduceSub, Int.reduceToNat, maxLen_eq, zeros_one, appS_some, appV_n, appV_v, appH_t, appH_f, Kd.isEx, ρ27, partV, ρ28, ρ29, f8, f1]) | (with_reducible first | refine condK_dec (fun _ => ?_) fun _ => ?_ | refine grd_dec (fun _ => ?_) fun _ => ?_ | refine egrd_dec (fun _ => ?_) fun _ => ?_))
      all_goals exact ⟨100 - (n + 1), by omega, n + 1, us2, tp, p1, c1, wl, _, rfl, by omega, by omega, rfl, rfl, hW4.mv (hx5.trans hx6), hwl4, hul4⟩
    · have hlm0 := hW.M.lm
      have hlw0 := hW.M.lw
      repeat' (first | (simp (disch := first | omega | (decide +kernel) | (repeat first | assumption | exact HExt.refl _ | refine HExt.set ?_ (by first | omega | (simp only [new_nx, set_nx]; omega)) _ | refine HExt.new ?_ _)) only [↓RD, RU, accW_t, accW_f, isW, ↓putF_get, ↓putF_none, ↓evF_t, ↓evF_c, ↓evF_f, new_nx, set_nx, new_get, set_get, getD_zero, getD_succ, u_not, pop, lop, aop, wop, resL, resV, tupleV, akV, isVal, isCell, Value.cells, ρ0, ρ1, ρ2, ρ3, ρ4, ↓reduceIte, Nat.reduceEqDiff, Nat.reduceAdd, Int.reduceOfNat, Int.reduceNegSucc, reduceCtorEq, ρ5, ρ6, ρ7, ρ8, srcR_c, src_n, src_v, src_s, bnd, lenV, capV, ρ9, ρ10, ρ11, ρ12, ρ13, ρ14, ρ15, ρ16, ρ17, ρ18, ρ19, ρ20, ρ21, ρ22, ρ23, ρ24, Kd.isRo, ρ25, ρ26, bldV, Nat.reduceLeDiff, Int.reduceMul, Int.reduceAdd, Int.reduceSub, Int.reduceToNat, maxLen_eq, zeros_one, appS_some, appV_n, appV_v, appH_t, appH_f, Kd.isEx, ρ27, partV, ρ28, ρ29, f8, f1, hag, hobs, hcs, hobw, hw1, hgf, hw2, hgv, hmm, hpl, hev1, hW.M.hmb, hk0, hk1', hk2', hk3, hmb]) | (with_reducible first | refine condK_dec (fun _ => ?_) fun _ => ?_ | refine grd_dec (fun _ => ?_) fun _ => ?_ | refine egrd_dec (fun _ => ?_) fun _ => ?_))
      obtain ⟨Kn, hKn⟩ : ∃ Kn, Kn = ((K.new (.cells [.int .i64 0, .int .i64 0, .int .i64 0, .int .u64 0, .slice none 0 0] 32 .ex)).set K.nx (.cells [.int .i64 st.k, .int .i64 st.f, .int .i64 st.i, .int .u64 st.w, .slice qv st.lv.length cv] 32 .ex)) := ⟨_, rfl⟩
      have hxn : HExt K Kn := by rw [hKn]; exact ns_ext
      have hnn : Kn.nx = K.nx + 1 := by rw [hKn]; rfl
      have hbn : Kn.ob K.nx = .cells [.int .i64 st.k, .int .i64 st.f, .int .i64 st.i, .int .u64 st.w, .slice qv st.lv.length cv] 32 .ex := by rw [hKn]; exact ns_ob
      rw [← hKn]
      have hW4 := hW.mv hxn
      have hb4 := hbn
      have hn4 : K.nx < Kn.nx := by omega
      have hul4 : us.length = ws.length := hul
      have hwl4 : wl.length ≤ sm.length + 1 + (n + 1) := by omega
      refine (rsame_wp hW4.w.1 hW4.M.words.1 tp tp (by omega) (by omega)).mono fun v5 K5 ⟨hv5, hx5⟩ => ?_
      rw [dec_t ⟨rfl, rfl⟩] at hv5
      subst hv5
      have hb5 := (hx5.ob _ hn4).trans hb4
      have hm5 := (hx5.ob _ hW4.pl).trans hW4.m
      repeat' (first | (simp (disch := first | omega | (decide +kernel) | (repeat first | assumption | exact HExt.refl _ | refine HExt.set ?_ (by first | omega | (simp only [new_nx, set_nx]; omega)) _ | refine HExt.new ?_ _)) only [↓RD, RU, accW_t, accW_f, isW, ↓putF_get, ↓putF_none, ↓evF_t, ↓evF_c, ↓evF_f, new_nx, set_nx, new_get, set_get, getD_zero, getD_succ, u_not, pop, lop, aop, wop, resL, resV, tupleV, akV, isVal, isCell, Value.cells, ρ0, ρ1, ρ2, ρ3, ρ4, ↓reduceIte, Nat.reduceEqDiff, Nat.reduceAdd, Int.reduceOfNat, Int.reduceNegSucc, reduceCtorEq, ρ5, ρ6, ρ7, ρ8, srcR_c, src_n, src_v, src_s, bnd, lenV, capV, ρ9, ρ10, ρ11, ρ12, ρ13, ρ14, ρ15, ρ16, ρ17, ρ18, ρ19, ρ20, ρ21, ρ22, ρ23, ρ24, Kd.isRo, ρ25, ρ26, bldV, Nat.reduceLeDiff, Int.reduceMul, Int.reduceAdd, Int.reduceSub, Int.reduceToNat, maxLen_eq, zeros_one, appS_some, appV_n, appV_v, appH_t, appH_f, Kd.isEx, ρ27, partV, ρ28, ρ29, hag, hmb, hm5, hb5]) | (with_reducible first | refine condK_dec (fun _ => ?_) fun _ => ?_ | refine grd_dec (fun _ => ?_) fun _ => ?_ | refine egrd_dec (fun _ => ?_) fun _ => ?_))
      refine (asks_wp (hW4.w.good hx5) tp f st.i (by omega) hfu hok.hi (by omega)).mono fun v6 K6 ⟨hv6, hx6⟩ => ?_
      subst hv6
      repeat' (first | (simp (disch := first | omega | (decide +kernel) | (repeat first | assumption | exact HExt.refl _ | refine HExt.set ?_ (by first | omega | (simp only [new_nx, set_nx]; omega)) _ | refine HExt.new ?_ _)) only [↓RD, RU, accW_t, accW_f, isW, ↓putF_get, ↓putF_none, ↓evF_t, ↓evF_c, ↓evF_f, new_nx, set_nx, new_get, set_get, getD_zero, getD_succ, u_not, pop, lop, aop, wop, resL, resV, tupleV, akV, isVal, isCell, Value.cells, ρ0, ρ1, ρ2, ρ3, ρ4, ↓reduceIte, Nat.reduceEqDiff, Nat.reduceAdd, Int.reduceOfNat, Int.reduceNegSucc, reduceCtorEq, ρ5, ρ6, ρ7, ρ8, srcR_c, src_n, src_v, src_s, bnd, lenV, capV, ρ9, ρ10, ρ11, ρ12, ρ13, ρ14, ρ15, ρ16, ρ17, ρ18, ρ19, ρ20, ρ21, ρ22, ρ23, ρ24, Kd.isRo, ρ25, ρ26, bldV, Nat.reduceLeDiff, Int.reduceMul, Int.reduceAdd, Int.reduceSub, Int.reduceToNat, maxLen_eq, zeros_one, appS_some, appV_n, appV_v, appH_t, appH_f, Kd.isEx, ρ27, partV, ρ28, ρ29, f8, f1]) | (with_reducible first | refine condK_dec (fun _ => ?_) fun _ => ?_ | refine grd_dec (fun _ => ?_) fun _ => ?_ | refine egrd_dec (fun _ => ?_) fun _ => ?_))
      all_goals exact ⟨100 - (n + 1), by omega, n + 1, us, tp, p', c'', wl, _, rfl, by omega, by omega, rfl, rfl, hW4.mv (hx5.trans hx6), hwl4, hul4⟩
  case neg =>
    rw [if_neg hev] at hy
    have hev1 : decide (st.w.tmod 2 = 0) = false := decide_eq_false (by rw [Int.tmod_eq_emod_of_nonneg hok.hw.1]; exact hev)
    subst hy
    rcases hk5 with hk | hk | hk | hk | ⟨hk0, hk1', hk2', hk3⟩
    · rw [hk] at hcs
      have hlm0 := hW.M.lm
      have hlw0 := hW.M.lw
      repeat' (first | (simp (disch := first | omega | (decide +kernel) | (repeat first | assumption | exact HExt.refl _ | refine HExt.set ?_ (by first | omega | (simp only [new_nx, set_nx]; omega)) _ | refine HExt.new ?_ _)) only [↓RD, RU, accW_t, accW_f, isW, ↓putF_get, ↓putF_none, ↓evF_t, ↓evF_c, ↓evF_f, new_nx, set_nx, new_get, set_get, getD_zero, getD_succ, u_not, pop, lop, aop, wop, resL, resV, tupleV, akV, isVal, isCell, Value.cells, ρ0, ρ1, ρ2, ρ3, ρ4, ↓reduceIte, Nat.reduceEqDiff, Nat.reduceAdd, Int.reduceOfNat, Int.reduceNegSucc, reduceCtorEq, ρ5, ρ6, ρ7, ρ8, srcR_c, src_n, src_v, src_s, bnd, lenV, capV, ρ9, ρ10, ρ11, ρ12, ρ13, ρ14, ρ15, ρ16, ρ17, ρ18, ρ19, ρ20, ρ21, ρ22, ρ23, ρ24, Kd.isRo, ρ25, ρ26, bldV, Nat.reduceLeDiff, Int.reduceMul, Int.reduceAdd, Int.reduceSub, Int.reduceToNat, maxLen_eq, zeros_one, appS_some, appV_n, appV_v, appH_t, appH_f, Kd.isEx, ρ27, partV, ρ28, ρ29, f8, f1, hag, hobs, hcs, hobw, hw1, hgf, hmm, hpl, hev1, hmb]) | (with_reducible first | refine condK_dec (fun _ => ?_) fun _ => ?_ | refine grd_dec (fun _ => ?_) fun _ => ?_ | refine egrd_dec (fun _ => ?_) fun _ => ?_))
      obtain ⟨Kn, hKn⟩ : ∃ Kn, Kn = ((K.new (.cells [.int .i64 0, .int .i64 0, .int .i64 0, .int .u64 0, .slice none 0 0] 32 .ex)).set K.nx (.cells [.int .i64 0, .int .i64 st.f, .int .i64 st.i, .int .u64 st.w, .slice qv st.lv.length cv] 32 .ex)) := ⟨_, rfl⟩
      have hxn : HExt K Kn := by rw [hKn]; exact ns_ext
      have hnn : Kn.nx = K.nx + 1 := by rw [hKn]; rfl
      have hbn : Kn.ob K.nx = .cells [.int .i64 0, .int .i64 st.f, .int .i64 st.i, .int .u64 st.w, .slice qv st.lv.length cv] 32 .ex := by rw [hKn]; exact ns_ob
      rw [← hKn]
      refine (rnew_wp (hW.w.good hxn) tp st.i ⟨hW.tp.1, hW.tp.2.1⟩ hW.tp.2.2 hok.hi).mono fun v1 K1 ⟨hx1, hv1⟩ => ?_
      have hM1 := hW.M.mv (hxn.trans hx1)
      have hn1 := hx1.nx
      have hb1 := (hx1.ob _ (by omega)).trans hbn
      rcases hv1 with ⟨hno, e1, rfl, he1⟩ | ⟨hyes, us1, l1, c1, hN1, rfl, hl1, hW1⟩
      · have he0 : e1 ≠ 0 := by split at he1 <;> omega
        repeat' (first | (simp (disch := first | omega | (decide +kernel) | (repeat first | assumption | exact HExt.refl _ | refine HExt.set ?_ (by first | omega | (simp only [new_nx, set_nx]; omega)) _ | refine HExt.new ?_ _)) only [↓RD, RU, accW_t, accW_f, isW, ↓putF_get, ↓putF_none, ↓evF_t, ↓evF_c, ↓evF_f, new_nx, set_nx, new_get, set_get, getD_zero, getD_succ, u_not, pop, lop, aop, wop, resL, resV, tupleV, akV, isVal, isCell, Value.cells, ρ0, ρ1, ρ2, ρ3, ρ4, ↓reduceIte, Nat.reduceEqDiff, Nat.reduceAdd, Int.reduceOfNat, Int.reduceNegSucc, reduceCtorEq, ρ5, ρ6, ρ7, ρ8, srcR_c, src_n, src_v, src_s, bnd, lenV, capV, ρ9, ρ10, ρ11, ρ12, ρ13, ρ14, ρ15, ρ16, ρ17, ρ18, ρ19, ρ20, ρ21, ρ22, ρ23, ρ24, Kd.isRo, ρ25, ρ26, bldV, Nat.reduceLeDiff, Int.reduceMul, Int.reduceAdd, Int.reduceSub, Int.reduceToNat, maxLen_eq, zeros_one, appS_some, appV_n, appV_v, appH_t, appH_f, Kd.isEx, ρ27, partV, ρ28, ρ29, hag, hmb, hb1]) | (with_reducible first | refine condK_dec (fun _ => ?_) fun _ => ?_ | refine grd_dec (fun _ => ?_) fun _ => ?_ | refine egrd_dec (fun _ => ?_) fun _ => ?_))
        obtain ⟨Km, hKm⟩ : ∃ Km, Km = ((K1.new (.cells [.slice none 0 0, .int .i64 0] 24 .ex)).set K1.nx (.cells [.slice p' us.length c'', .int .i64 tp] 24 .ex)) := ⟨_, rfl⟩
        have hxm : HExt K1 Km := by rw [hKm]; exact ns_ext
        have hnm : Km.nx = K1.nx + 1 := by rw [hKm]; rfl
        have hbm : Km.ob K1.nx = .cells [.slice p' us.length c'', .int .i64 tp] 24 .ex := by rw [hKm]; exact ns_ob
        rw [← hKm]
        refine (fnew_wp (hM1.mv hxm) ⟨hW.tp.1, hW.tp.2.1⟩ hW.tp.2.2 st.i hok.hi).mono fun v2 K2 ⟨hB2, hv2⟩ => ?_
        rcases hv2 with ⟨_, ⟨e2, rfl, he2⟩, hM2⟩ | ⟨hy2, _⟩
        case inr => exact absurd hy2 hno
        have he12 : e2 = e1 := by split at he1 <;> split at he2 <;> omega
        subst he12
        have hn2 := hB2.nx
        have hbm2 := (hB2.ob K1.nx (by omega) (by omega) (by omega)).trans hbm
        have hb2 := (hB2.ob K.nx (by omega) (by omega) (by omega)).trans ((hxm.ob _ (by omega)).trans hb1)
        have hmm2 := (hB2.ob H.nx (by omega) hW.pn.1 hW.pn.2).trans (((hxn.trans hx1).trans hxm).ob _ hpl |>.trans hmm)
        have hmb2 := hM2.hmb
        repeat' (first | (simp (disch := first | omega | (decide +kernel) | (repeat first | assumption | exact HExt.refl _ | refine HExt.set ?_ (by first | omega | (simp only [new_nx, set_nx]; omega)) _ | refine HExt.new ?_ _)) only [↓RD, RU, accW_t, accW_f, isW, ↓putF_get, ↓putF_none, ↓evF_t, ↓evF_c, ↓evF_f, new_nx, set_nx, new_get, set_get, getD_zero, getD_succ, u_not, pop, lop, aop, wop, resL, resV, tupleV, akV, isVal, isCell, Value.cells, ρ0, ρ1, ρ2, ρ3, ρ4, ↓reduceIte, Nat.reduceEqDiff, Nat.reduceAdd, Int.reduceOfNat, Int.reduceNegSucc, reduceCtorEq, ρ5, ρ6, ρ7, ρ8, srcR_c, src_n, src_v, src_s, bnd, lenV, capV, ρ9, ρ10, ρ11, ρ12, ρ13, ρ14, ρ15, ρ16, ρ17, ρ18, ρ19, ρ20, ρ21, ρ22, ρ23, ρ24, Kd.isRo, ρ25, ρ26, bldV, Nat.reduceLeDiff, Int.reduceMul, Int.reduceAdd, Int.reduceSub, Int.reduceToNat, maxLen_eq, zeros_one, appS_some, appV_n, appV_v, appH_t, appH_f, Kd.isEx, ρ27, partV, ρ28, ρ29, hag, hmb, hbm2, hmm2, he0, hmb2]) | (with_reducible first | refine condK_dec (fun _ => ?_) fun _ => ?_ | refine grd_dec (fun _ => ?_) fun _ => ?_ | refine egrd_dec (fun _ => ?_) fun _ => ?_))
        have hE2 : HExt H K2 := hB2.ext (((hW.E.trans hxn).trans hx1).trans hxm) hW.lo.2.1 hW.lo.2.2
        have hBK := (((hxn.trans hx1).trans hxm).but mb lr).trans hB2
        have hW4 := WI.step hM2 (words_but hW.w hBK fun l o e => ⟨(hW.wn l o e).1, (hW.wn l o e).2.1⟩) hW.wn (by omega) hW.pn (grw_but hW.G hBK (fun o n c e => (hW.vn _ o n c e).1 rfl) (fun o n c e => (hW.vn _ o n c e).2.1 rfl)) hW.vn hW.ne hW.wu hE2 hW.tp hW.lo
        have hb4 : (K2.set H.nx (.cells [.slice p' us.length c'', .int .i64 tp] 24 .ex)).ob K.nx = _ := (set_get.trans (if_neg (by omega))).trans hb2
        have hn4 : K.nx < (K2.set H.nx (.cells [.slice p' us.length c'', .int .i64 tp] 24 .ex)).nx := by show K.nx < K2.nx; omega
        generalize (K2.set H.nx (.cells [.slice p' us.length c'', .int .i64 tp] 24 .ex)) = K4 at hW4 hb4 hn4 ⊢
        have hul4 : us.length = ws.length := hul
        have hwl4 : wl.length ≤ sm.length + 1 + (n + 1) := by omega
        refine (rsame_wp hW4.w.1 hW4.M.words.1 tp tp (by omega) (by omega)).mono fun v5 K5 ⟨hv5, hx5⟩ => ?_
        rw [dec_t ⟨rfl, rfl⟩] at hv5
        subst hv5
        have hb5 := (hx5.ob _ hn4).trans hb4
        have hm5 := (hx5.ob _ hW4.pl).trans hW4.m
        repeat' (first | (simp (disch := first | omega | (decide +kernel) | (repeat first | assumption | exact HExt.refl _ | refine HExt.set ?_ (by first | omega | (simp only [new_nx, set_nx]; omega)) _ | refine HExt.new ?_ _)) only [↓RD, RU, accW_t, accW_f, isW, ↓putF_get, ↓putF_none, ↓evF_t, ↓evF_c, ↓evF_f, new_nx, set_nx, new_get, set_get, getD_zero, getD_succ, u_not, pop, lop, aop, wop, resL, resV, tupleV, akV, isVal, isCell, Value.cells, ρ0, ρ1, ρ2, ρ3, ρ4, ↓reduceIte, Nat.reduceEqDiff, Nat.reduceAdd, Int.reduceOfNat, Int.reduceNegSucc, reduceCtorEq, ρ5, ρ6, ρ7, ρ8, srcR_c, src_n, src_v, src_s, bnd, lenV, capV, ρ9, ρ10, ρ11, ρ12, ρ13, ρ14, ρ15, ρ16, ρ17, ρ18, ρ19, ρ20, ρ21, ρ22, ρ23, ρ24, Kd.isRo, ρ25, ρ26, bldV, Nat.reduceLeDiff, Int.reduceMul, Int.reduceAdd, Int.reduceSub, Int.reduceToNat, maxLen_eq, zeros_one, appS_some, appV_n, appV_v, appH_t, appH_f, Kd.isEx, ρ27, partV, ρ28, ρ29, hag, hmb, hm5, hb5]) | (with_reducible first | refine condK_dec (fun _ => ?_) fun _ => ?_ | refine grd_dec (fun _ => ?_) fun _ => ?_ | refine egrd_dec (fun _ => ?_) fun _ => ?_))
        refine (asks_wp (hW4.w.good hx5) tp f st.i (by omega) hfu hok.hi (by omega)).mono fun v6 K6 ⟨hv6, hx6⟩ => ?_
        subst hv6
        repeat' (first | (simp (disch := first | omega | (decide +kernel) | (repeat first | assumption | exact HExt.refl _ | refine HExt.set ?_ (by first | omega | (simp only [new_nx, set_nx]; omega)) _ | refine HExt.new ?_ _)) only [↓RD, RU, accW_t, accW_f, isW, ↓putF_get, ↓putF_none, ↓evF_t, ↓evF_c, ↓evF_f, new_nx, set_nx, new_get, set_get, getD_zero, getD_succ, u_not, pop, lop, aop, wop, resL, resV, tupleV, akV, isVal, isCell, Value.cells, ρ0, ρ1, ρ2, ρ3, ρ4, ↓reduceIte, Nat.reduceEqDiff, Nat.reduceAdd, Int.reduceOfNat, Int.reduceNegSucc, reduceCtorEq, ρ5, ρ6, ρ7, ρ8, srcR_c, src_n, src_v, src_s, bnd, lenV, capV, ρ9, ρ10, ρ11, ρ12, ρ13, ρ14, ρ15, ρ16, ρ17, ρ18, ρ19, ρ20, ρ21, ρ22, ρ23, ρ24, Kd.isRo, ρ25, ρ26, bldV, Nat.reduceLeDiff, Int.reduceMul, Int.reduceAdd, Int.reduceSub, Int.reduceToNat, maxLen_eq, zeros_one, appS_some, appV_n, appV_v, appH_t, appH_f, Kd.isEx, ρ27, partV, ρ28, ρ29, f8, f1]) | (with_reducible first | refine condK_dec (fun _ => ?_) fun _ => ?_ | refine grd_dec (fun _ => ?_) fun _ => ?_ | refine egrd_dec (fun _ => ?_) fun _ => ?_))
        all_goals exact ⟨100 - (n + 1), by omega, n + 1, us, tp, p', c'', wl, _, rfl, by omega, by omega, rfl, rfl, hW4.mv (hx5.trans hx6), hwl4, hul4⟩
      · obtain ⟨hy1, hy2, hy3⟩ := hyes
        have hl1' : l1 < K1.nx := by
          rcases hW1.1 with ⟨h, _⟩ | ⟨l', o', os, e', k, h, hl', _⟩
          · have := hN1.len; rw [h] at this; simp at this; omega
          · cases h; exact hl'
        repeat' (first | (simp (disch := first | omega | (decide +kernel) | (repeat first | assumption | exact HExt.refl _ | refine HExt.set ?_ (by first | omega | (simp only [new_nx, set_nx]; omega)) _ | refine HExt.new ?_ _)) only [↓RD, RU, accW_t, accW_f, isW, ↓putF_get, ↓putF_none, ↓evF_t, ↓evF_c, ↓evF_f, new_nx, set_nx, new_get, set_get, getD_zero, getD_succ, u_not, pop, lop, aop, wop, resL, resV, tupleV, akV, isVal, isCell, Value.cells, ρ0, ρ1, ρ2, ρ3, ρ4, ↓reduceIte, Nat.reduceEqDiff, Nat.reduceAdd, Int.reduceOfNat, Int.reduceNegSucc, reduceCtorEq, ρ5, ρ6, ρ7, ρ8, srcR_c, src_n, src_v, src_s, bnd, lenV, capV, ρ9, ρ10, ρ11, ρ12, ρ13, ρ14, ρ15, ρ16, ρ17, ρ18, ρ19, ρ20, ρ21, ρ22, ρ23, ρ24, Kd.isRo, ρ25, ρ26, bldV, Nat.reduceLeDiff, Int.reduceMul, Int.reduceAdd, Int.reduceSub, Int.reduceToNat, maxLen_eq, zeros_one, appS_some, appV_n, appV_v, appH_t, appH_f, Kd.isEx, ρ27, partV, ρ28, ρ29, hag, hmb, hb1]) | (with_reducible first | refine condK_dec (fun _ => ?_) fun _ => ?_ | refine grd_dec (fun _ => ?_) fun _ => ?_ | refine egrd_dec (fun _ => ?_) fun _ => ?_))
        obtain ⟨Km, hKm⟩ : ∃ Km, Km = ((K1.new (.cells [.slice none 0 0, .int .i64 0] 24 .ex)).set K1.nx (.cells [.slice (some ⟨l1, 0, none⟩) us.length c1, .int .i64 (tp + (8 + st.i))] 24 .ex)) := ⟨_, rfl⟩
        have hxm : HExt K1 Km := by rw [hKm]; exact ns_ext
        have hnm : Km.nx = K1.nx + 1 := by rw [hKm]; rfl
        have hbm : Km.ob K1.nx = .cells [.slice (some ⟨l1, 0, none⟩) us.length c1, .int .i64 (tp + (8 + st.i))] 24 .ex := by rw [hKm]; exact ns_ob
        rw [← hKm]
        refine (fnew_wp (hM1.mv hxm) ⟨hW.tp.1, hW.tp.2.1⟩ hW.tp.2.2 st.i hok.hi).mono fun v2 K2 ⟨hB2, hv2⟩ => ?_
        rcases hv2 with ⟨hn2, _⟩ | ⟨_, us2, hN2, rfl, hM2⟩
        case inl => exact absurd ⟨hy1, hy2, hy3⟩ hn2
        have hus : us2 = us1 := nwI_eq hN2 hN1
        subst hus
        have hul1 := hN2.len
        have hn2 := hB2.nx
        have hbm2 := (hB2.ob K1.nx (by omega) (by omega) (by omega)).trans hbm
        have hb2 := (hB2.ob K.nx (by omega) (by omega) (by omega)).trans ((hxm.ob _ (by omega)).trans hb1)
        have hmm2 := (hB2.ob H.nx (by omega) hW.pn.1 hW.pn.2).trans (((hxn.trans hx1).trans hxm).ob _ hpl |>.trans hmm)
        have hmb2 := hM2.hmb
        have hvn := hW.vn lw 0 _ _ rfl
        have hlw2 := (hB2.ob lw (by omega) hvn.1 hvn.2.1).trans (((hxn.trans hx1).trans hxm).ob _ gb2 |>.trans gb3)
        repeat' (first | (simp (disch := first | omega | (decide +kernel) | (repeat first | assumption | exact HExt.refl _ | refine HExt.set ?_ (by first | omega | (simp only [new_nx, set_nx]; omega)) _ | refine HExt.new ?_ _)) only [↓RD, RU, accW_t, accW_f, isW, ↓putF_get, ↓putF_none, ↓evF_t, ↓evF_c, ↓evF_f, new_nx, set_nx, new_get, set_get, getD_zero, getD_succ, u_not, pop, lop, aop, wop, resL, resV, tupleV, akV, isVal, isCell, Value.cells, ρ0, ρ1, ρ2, ρ3, ρ4, ↓reduceIte, Nat.reduceEqDiff, Nat.reduceAdd, Int.reduceOfNat, Int.reduceNegSucc, reduceCtorEq, ρ5, ρ6, ρ7, ρ8, srcR_c, src_n, src_v, src_s, bnd, lenV, capV, ρ9, ρ10, ρ11, ρ12, ρ13, ρ14, ρ15, ρ16, ρ17, ρ18, ρ19, ρ20, ρ21, ρ22, ρ23, ρ24, Kd.isRo, ρ25, ρ26, bldV, Nat.reduceLeDiff, Int.reduceMul, Int.reduceAdd, Int.reduceSub, Int.reduceToNat, maxLen_eq, zeros_one, appS_some, appV_n, appV_v, appH_t, appH_f, Kd.isEx, ρ27, partV, ρ28, ρ29, hag, hmb, hbm2, hmm2, hmb2, f1]) | (with_reducible first | refine condK_dec (fun _ => ?_) fun _ => ?_ | refine grd_dec (fun _ => ?_) fun _ => ?_ | refine egrd_dec (fun _ => ?_) fun _ => ?_))
        refine appR_own (y := 4 * tp) hlw2 gb4 (by omega) fun K3 k1 k2 k3 => ?_
        have k1' : K3.nx = K2.nx + 2 := k1
        have hB3 : But K2 K3 lw lw := ⟨by omega, fun l h1 h2 _ => (k2 l (by show l < K2.nx + 1; omega) h2).trans (by rw [new_get, if_neg (by omega)])⟩
        have hbm3 := (hB3.ob K1.nx (by omega) (by omega) (by omega)).trans hbm2
        have hb3 := (hB3.ob K.nx (by omega) (by omega) (by omega)).trans hb2
        have hmm3 := (hB3.ob H.nx (by omega) (fun e => hvn.2.2.1 e.symm) (fun e => hvn.2.2.1 e.symm)).trans hmm2
        have hmb3 := (hB3.ob mb (by omega) (fun e => hvn.1 e.symm) (fun e => hvn.1 e.symm)).trans hmb2
        repeat' (first | (simp (disch := first | omega | (decide +kernel) | (repeat first | assumption | exact HExt.refl _ | refine HExt.set ?_ (by first | omega | (simp only [new_nx, set_nx]; omega)) _ | refine HExt.new ?_ _)) only [↓RD, RU, accW_t, accW_f, isW, ↓putF_get, ↓putF_none, ↓evF_t, ↓evF_c, ↓evF_f, new_nx, set_nx, new_get, set_get, getD_zero, getD_succ, u_not, pop, lop, aop, wop, resL, resV, tupleV, akV, isVal, isCell, Value.cells, ρ0, ρ1, ρ2, ρ3, ρ4, ↓reduceIte, Nat.reduceEqDiff, Nat.reduceAdd, Int.reduceOfNat, Int.reduceNegSucc, reduceCtorEq, ρ5, ρ6, ρ7, ρ8, srcR_c, src_n, src_v, src_s, bnd, lenV, capV, ρ9, ρ10, ρ11, ρ12, ρ13, ρ14, ρ15, ρ16, ρ17, ρ18, ρ19, ρ20, ρ21, ρ22, ρ23, ρ24, Kd.isRo, ρ25, ρ26, bldV, Nat.reduceLeDiff, Int.reduceMul, Int.reduceAdd, Int.reduceSub, Int.reduceToNat, maxLen_eq, zeros_one, appS_some, appV_n, appV_v, appH_t, appH_f, Kd.isEx, ρ27, partV, ρ28, ρ29, hag, hmb, hbm3, hmm3, hmb3]) | (with_reducible first | refine condK_dec (fun _ => ?_) fun _ => ?_ | refine grd_dec (fun _ => ?_) fun _ => ?_ | refine egrd_dec (fun _ => ?_) fun _ => ?_))
        have hE2 : HExt H K2 := hB2.ext (((hW.E.trans hxn).trans hx1).trans hxm) hW.lo.2.1 hW.lo.2.2
        have hw3 : Words K3 (some ⟨l1, 0, none⟩) c1 us2 := words_but (words_but (hW1.good hxm) hB2 fun l o e => by cases e; omega) hB3 fun l o e => by cases e; omega
        have hG3 : Grw H 29 1 (ints .u64) K3 (.slice (some ⟨K2.nx + 1, 0, none⟩) (wl.length + 1) (wl.length + 1)) (wl ++ [4 * tp]) := .inr ⟨K2.nx + 1, .gr, by simp, by have := hE2.nx; omega, by omega, by rw [flat_ints]; exact k3, rfl⟩
        have hW4 := WI.step (hM2.of_but hB3 ⟨fun e => hvn.1 e.symm, fun e => hvn.1 e.symm⟩ ⟨fun e => hvn.2.1 e.symm, fun e => hvn.2.1 e.symm⟩) hw3 (fun l o e => by cases e; omega) (by omega) hW.pn hG3 (fun b o n c e => by cases e; exact ⟨by omega, by omega, by omega, fun o' e => by cases e; omega⟩) (by simp) (fun x hx => by
          rcases List.mem_append.1 hx with hx | hx
          · exact hW.wu x hx
          · simp at hx; omega) (hB3.ext hE2 gb1 gb1) ⟨by omega, by omega, by omega⟩ hW.lo
        rw [hul1] at hW4
        have hb4 : (K3.set H.nx (.cells [.slice (some ⟨l1, 0, none⟩) us.length c1, .int .i64 (tp + (8 + st.i))] 24 .ex)).ob K.nx = _ := (set_get.trans (if_neg (by omega))).trans hb3
        have hn4 : K.nx < (K3.set H.nx (.cells [.slice (some ⟨l1, 0, none⟩) us.length c1, .int .i64 (tp + (8 + st.i))] 24 .ex)).nx := by show K.nx < K3.nx; omega
        generalize (K3.set H.nx (.cells [.slice (some ⟨l1, 0, none⟩) us.length c1, .int .i64 (tp + (8 + st.i))] 24 .ex)) = K4 at hW4 hb4 hn4 ⊢
        have hul4 : us2.length = ws.length := hul1.trans hul
        have hwl4 : (wl ++ [4 * tp]).length ≤ sm.length + 1 + (n + 1) := by simp; omega
        rw [← hul1]
        refine (rsame_wp hW4.w.1 hW4.M.words.1 (tp + (8 + st.i)) (tp + (8 + st.i)) (by omega) (by omega)).mono fun v5 K5 ⟨hv5, hx5⟩ => ?_
        rw [dec_t ⟨rfl, rfl⟩] at hv5
        subst hv5
        have hb5 := (hx5.ob _ hn4).trans hb4
        have hm5 := (hx5.ob _ hW4.pl).trans hW4.m
        repeat' (first | (simp (disch := first | omega | (decide +kernel) | (repeat first | assumption | exact HExt.refl _ | refine HExt.set ?_ (by first | omega | (simp only [new_nx, set_nx]; omega)) _ | refine HExt.new ?_ _)) only [↓RD, RU, accW_t, accW_f, isW, ↓putF_get, ↓putF_none, ↓evF_t, ↓evF_c, ↓evF_f, new_nx, set_nx, new_get, set_get, getD_zero, getD_succ, u_not, pop, lop, aop, wop, resL, resV, tupleV, akV, isVal, isCell, Value.cells, ρ0, ρ1, ρ2, ρ3, ρ4, ↓reduceIte, Nat.reduceEqDiff, Nat.reduceAdd, Int.reduceOfNat, Int.reduceNegSucc, reduceCtorEq, ρ5, ρ6, ρ7, ρ8, srcR_c, src_n, src_v, src_s, bnd, lenV, capV, ρ9, ρ10, ρ11, ρ12, ρ13, ρ14, ρ15, ρ16, ρ17, ρ18, ρ19, ρ20, ρ21, ρ22, ρ23, ρ24, Kd.isRo, ρ25, ρ26, bldV, Nat.reduceLeDiff, Int.reduceMul, Int.reduceAdd, Int.reduceSub, Int.reduceToNat, maxLen_eq, zeros_one, appS_some, appV_n, appV_v, appH_t, appH_f, Kd.isEx, ρ27, partV, ρ28, ρ29, hag, hmb, hm5, hb5]) | (with_reducible first | refine condK_dec (fun _ => ?_) fun _ => ?_ | refine grd_dec (fun _ => ?_) fun _ => ?_ | refine egrd_dec (fun _ => ?_) fun _ => ?_))
        refine (asks_wp (hW4.w.good hx5) (tp + (8 + st.i)) f st.i (by omega) hfu hok.hi (by omega)).mono fun v6 K6 ⟨hv6, hx6⟩ => ?_
        subst hv6
        repeat' (first | (simp (disch := first | omega | (decide +kernel) | (repeat first | assumption | exact HExt.refl _ | refine HExt.set ?_ (by first | omega | (simp only [new_nx, set_nx]; omega)) _ | refine HExt.new ?_ _)) only [↓RD, RU, accW_t, accW_f, isW, ↓putF_get, ↓putF_none, ↓evF_t, ↓evF_c, ↓evF_f, new_nx, set_nx, new_get, set_get, getD_zero, getD_succ, u_not, pop, lop, aop, wop, resL, resV, tupleV, akV, isVal, isCell, Value.cells, ρ0, ρ1, ρ2, ρ3, ρ4, ↓reduceIte, Nat.reduceEqDiff, Nat.reduceAdd, Int.reduceOfNat, Int.reduceNegSucc, reduceCtorEq, ρ5, ρ6, ρ7, ρ8, srcR_c, src_n, src_v, src_s, bnd, lenV, capV, ρ9, ρ10, ρ11, ρ12, ρ13, ρ14, ρ15, ρ16, ρ17, ρ18, ρ19, ρ20, ρ21, ρ22, ρ23, ρ24, Kd.isRo, ρ25, ρ26, bldV, Nat.reduceLeDiff, Int.reduceMul, Int.reduceAdd, Int.reduceSub, Int.reduceToNat, maxLen_eq, zeros_one, appS_some, appV_n, appV_v, appH_t, appH_f, Kd.isEx, ρ27, partV, ρ28, ρ29, f8, f1]) | (with_reducible first | refine condK_dec (fun _ => ?_) fun _ => ?_ | refine grd_dec (fun _ => ?_) fun _ => ?_ | refine egrd_dec (fun _ => ?_) fun _ => ?_))
        all_goals exact ⟨100 - (n + 1), by omega, n + 1, us2, (tp + (8 + st.i)), _, _, (wl ++ [4 * tp]), _, rfl, by omega, by omega, rfl, rfl, hW4.mv (hx5.trans hx6), hwl4, hul4⟩
    · rw [hk] at hcs
      have hlm0 := hW.M.lm
      have hlw0 := hW.M.lw
      repeat' (first | (simp (disch := first | omega | (decide +kernel) | (repeat first | assumption | exact HExt.refl _ | refine HExt.set ?_ (by first | omega | (simp only [new_nx, set_nx]; omega)) _ | refine HExt.new ?_ _)) only [↓RD, RU, accW_t, accW_f, isW, ↓putF_get, ↓putF_none, ↓evF_t, ↓evF_c, ↓evF_f, new_nx, set_nx, new_get, set_get, getD_zero, getD_succ, u_not, pop, lop, aop, wop, resL, resV, tupleV, akV, isVal, isCell, Value.cells, ρ0, ρ1, ρ2, ρ3, ρ4, ↓reduceIte, Nat.reduceEqDiff, Nat.reduceAdd, Int.reduceOfNat, Int.reduceNegSucc, reduceCtorEq, ρ5, ρ6, ρ7, ρ8, srcR_c, src_n, src_v, src_s, bnd, lenV, capV, ρ9, ρ10, ρ11, ρ12, ρ13, ρ14, ρ15, ρ16, ρ17, ρ18, ρ19, ρ20, ρ21, ρ22, ρ23, ρ24, Kd.isRo, ρ25, ρ26, bldV, Nat.reduceLeDiff, Int.reduceMul, Int.reduceAdd, Int.reduceSub, Int.reduceToNat, maxLen_eq, zeros_one, appS_some, appV_n, appV_v, appH_t, appH_f, Kd.isEx, ρ27, partV, ρ28, ρ29, f8, f1, hag, hobs, hcs, hobw, hw1, hgf, hmm, hpl, hev1, hmb]) | (with_reducible first | refine condK_dec (fun _ => ?_) fun _ => ?_ | refine grd_dec (fun _ => ?_) fun _ => ?_ | refine egrd_dec (fun _ => ?_) fun _ => ?_))
      obtain ⟨Kn, hKn⟩ : ∃ Kn, Kn = ((K.new (.cells [.int .i64 0, .int .i64 0, .int .i64 0, .int .u64 0, .slice none 0 0] 32 .ex)).set K.nx (.cells [.int .i64 1, .int .i64 st.f, .int .i64 st.i, .int .u64 st.w, .slice qv st.lv.length cv] 32 .ex)) := ⟨_, rfl⟩
      have hxn : HExt K Kn := by rw [hKn]; exact ns_ext
      have hnn : Kn.nx = K.nx + 1 := by rw [hKn]; rfl
      have hbn : Kn.ob K.nx = .cells [.int .i64 1, .int .i64 st.f, .int .i64 st.i, .int .u64 st.w, .slice qv st.lv.length cv] 32 .ex := by rw [hKn]; exact ns_ob
      rw [← hKn]
      refine (rsetword_wp (hW.w.good hxn) (by omega) tp f 0 st.i st.w (by decide) (by omega) hfu hok.hi hyu).mono fun v1 K1 ⟨hx1, p1, c1, hv1, hl1, hW1, hp1⟩ => ?_
      subst hv1
      have hM1 := hW.M.mv (hxn.trans hx1)
      have hn1 := hx1.nx
      have hb1 := (hx1.ob _ (by omega)).trans hbn
      have hm1 := ((hxn.trans hx1).ob _ hpl).trans hmm
      have hp2 : ∀ l o, p1 = some ⟨l, o, none⟩ → l ≠ mb ∧ l ≠ lr ∧ l ≠ H.nx := fun l o e => by
        rcases hp1 l o e with h | ⟨o', h⟩
        · omega
        · exact hW.wn l o' h
      repeat' (first | (simp (disch := first | omega | (decide +kernel) | (repeat first | assumption | exact HExt.refl _ | refine HExt.set ?_ (by first | omega | (simp only [new_nx, set_nx]; omega)) _ | refine HExt.new ?_ _)) only [↓RD, RU, accW_t, accW_f, isW, ↓putF_get, ↓putF_none, ↓evF_t, ↓evF_c, ↓evF_f, new_nx, set_nx, new_get, set_get, getD_zero, getD_succ, u_not, pop, lop, aop, wop, resL, resV, tupleV, akV, isVal, isCell, Value.cells, ρ0, ρ1, ρ2, ρ3, ρ4, ↓reduceIte, Nat.reduceEqDiff, Nat.reduceAdd, Int.reduceOfNat, Int.reduceNegSucc, reduceCtorEq, ρ5, ρ6, ρ7, ρ8, srcR_c, src_n, src_v, src_s, bnd, lenV, capV, ρ9, ρ10, ρ11, ρ12, ρ13, ρ14, ρ15, ρ16, ρ17, ρ18, ρ19, ρ20, ρ21, ρ22, ρ23, ρ24, Kd.isRo, ρ25, ρ26, bldV, Nat.reduceLeDiff, Int.reduceMul, Int.reduceAdd, Int.reduceSub, Int.reduceToNat, maxLen_eq, zeros_one, appS_some, appV_n, appV_v, appH_t, appH_f, Kd.isEx, ρ27, partV, ρ28, ρ29, hag, hmb, hb1, hm1, hpl]) | (with_reducible first | refine condK_dec (fun _ => ?_) fun _ => ?_ | refine grd_dec (fun _ => ?_) fun _ => ?_ | refine egrd_dec (fun _ => ?_) fun _ => ?_))
      obtain ⟨Kp, hKp⟩ : ∃ Kp, Kp = (K1.set H.nx (.cells [.slice p1 us.length c1, .int .i64 tp] 24 .ex)) := ⟨_, rfl⟩
      have hBp : But K1 Kp H.nx H.nx := by rw [hKp]; exact ⟨Nat.le_refl _, fun l _ h1 _ => by rw [set_get, if_neg h1]⟩
      have hnp : Kp.nx = K1.nx := by rw [hKp]; rfl
      have hmp : Kp.ob H.nx = .cells [.slice p1 us.length c1, .int .i64 tp] 24 .ex := by rw [hKp, set_get, if_pos rfl]
      rw [← hKp]
      have hMp := hM1.of_but hBp ⟨fun e => hW.pn.1 e.symm, fun e => hW.pn.1 e.symm⟩ ⟨fun e => hW.pn.2 e.symm, fun e => hW.pn.2 e.symm⟩
      refine (setfield_wp hMp f st.i st.w hfu hok.hi hyu).mono fun v2 K2 ⟨hv2, hB2, hM2⟩ => ?_
      subst hv2
      have hn2 := hB2.nx
      have hb2 := (hB2.ob K.nx (by omega) (by omega) (by omega)).trans ((hBp.ob K.nx (by omega) (by omega) (by omega)).trans hb1)
      have hm2 := (hB2.ob H.nx (by omega) hW.pn.1 hW.pn.2).trans hmp
      have hmb2 := hM2.hmb
      rw [hl1] at hmb2
      repeat' (first | (simp (disch := first | omega | (decide +kernel) | (repeat first | assumption | exact HExt.refl _ | refine HExt.set ?_ (by first | omega | (simp only [new_nx, set_nx]; omega)) _ | refine HExt.new ?_ _)) only [↓RD, RU, accW_t, accW_f, isW, ↓putF_get, ↓putF_none, ↓evF_t, ↓evF_c, ↓evF_f, new_nx, set_nx, new_get, set_get, getD_zero, getD_succ, u_not, pop, lop, aop, wop, resL, resV, tupleV, akV, isVal, isCell, Value.cells, ρ0, ρ1, ρ2, ρ3, ρ4, ↓reduceIte, Nat.reduceEqDiff, Nat.reduceAdd, Int.reduceOfNat, Int.reduceNegSucc, reduceCtorEq, ρ5, ρ6, ρ7, ρ8, srcR_c, src_n, src_v, src_s, bnd, lenV, capV, ρ9, ρ10, ρ11, ρ12, ρ13, ρ14, ρ15, ρ16, ρ17, ρ18, ρ19, ρ20, ρ21, ρ22, ρ23, ρ24, Kd.isRo, ρ25, ρ26, bldV, Nat.reduceLeDiff, Int.reduceMul, Int.reduceAdd, Int.reduceSub, Int.reduceToNat, maxLen_eq, zeros_one, appS_some, appV_n, appV_v, appH_t, appH_f, Kd.isEx, ρ27, partV, ρ28, ρ29, hag, hmb, hm2, hmb2]) | (with_reducible first | refine condK_dec (fun _ => ?_) fun _ => ?_ | refine grd_dec (fun _ => ?_) fun _ => ?_ | refine egrd_dec (fun _ => ?_) fun _ => ?_))
      have hw2 : Words K2 p1 c1 (setW us tp f 0 st.i st.w) := words_but (words_but hW1 hBp fun l o e => ⟨(hp2 l o e).2.2, (hp2 l o e).2.2⟩) hB2 fun l o e => ⟨(hp2 l o e).1, (hp2 l o e).2.1⟩
      have hG2 := grw_but (grw_but (hW.G.ext (hxn.trans hx1)) hBp (fun o n c e => (hW.vn _ o n c e).2.2.1 rfl) (fun o n c e => (hW.vn _ o n c e).2.2.1 rfl)) hB2 (fun o n c e => (hW.vn _ o n c e).1 rfl) (fun o n c e => (hW.vn _ o n c e).2.1 rfl)
      have hE2 : HExt H K2 := hB2.ext (hBp.ext ((hW.E.trans hxn).trans hx1) hW.lo.1 hW.lo.1) hW.lo.2.1 hW.lo.2.2
      rw [← hl1] at hm2
      have hW4 : WI H K2 H.nx mb lr cr kr (setW us tp f 0 st.i st.w) tp p1 c1 wl _ := ⟨hm2, by omega, hw2, hp2, hM2, hW.pn, hG2, fun b o n c e => ⟨(hW.vn b o n c e).1, (hW.vn b o n c e).2.1, (hW.vn b o n c e).2.2.1, fun o' e' => by
        rcases hp1 b o' e' with h | ⟨o2, h⟩
        · cases e; omega
        · exact (hW.vn b o n c e).2.2.2 o2 h⟩, hW.ne, hW.wu, hE2, by rw [hl1]; exact hW.tp, hW.lo⟩
      have hb4 := hb2
      have hn4 : K.nx < K2.nx := by omega
      have hul4 : (setW us tp f 0 st.i st.w).length = ws.length := hl1.trans hul
      have hwl4 : wl.length ≤ sm.length + 1 + (n + 1) := by omega
      rw [← hl1]
      refine (rsame_wp hW4.w.1 hW4.M.words.1 tp tp (by omega) (by omega)).mono fun v5 K5 ⟨hv5, hx5⟩ => ?_
      rw [dec_t ⟨rfl, rfl⟩] at hv5
      subst hv5
      have hb5 := (hx5.ob _ hn4).trans hb4
      have hm5 := (hx5.ob _ hW4.pl).trans hW4.m
      repeat' (first | (simp (disch := first | omega | (decide +kernel) | (repeat first | assumption | exact HExt.refl _ | refine HExt.set ?_ (by first | omega | (simp only [new_nx, set_nx]; omega)) _ | refine HExt.new ?_ _)) only [↓RD, RU, accW_t, accW_f, isW, ↓putF_get, ↓putF_none, ↓evF_t, ↓evF_c, ↓evF_f, new_nx, set_nx, new_get, set_get, getD_zero, getD_succ, u_not, pop, lop, aop, wop, resL, resV, tupleV, akV, isVal, isCell, Value.cells, ρ0, ρ1, ρ2, ρ3, ρ4, ↓reduceIte, Nat.reduceEqDiff, Nat.reduceAdd, Int.reduceOfNat, Int.reduceNegSucc, reduceCtorEq, ρ5, ρ6, ρ7, ρ8, srcR_c, src_n, src_v, src_s, bnd, lenV, capV, ρ9, ρ10, ρ11, ρ12, ρ13, ρ14, ρ15, ρ16, ρ17, ρ18, ρ19, ρ20, ρ21, ρ22, ρ23, ρ24, Kd.isRo, ρ25, ρ26, bldV, Nat.reduceLeDiff, Int.reduceMul, Int.reduceAdd, Int.reduceSub, Int.reduceToNat, maxLen_eq, zeros_one, appS_some, appV_n, appV_v, appH_t, appH_f, Kd.isEx, ρ27, partV, ρ28, ρ29, hag, hmb, hm5, hb5]) | (with_reducible first | refine condK_dec (fun _ => ?_) fun _ => ?_ | refine grd_dec (fun _ => ?_) fun _ => ?_ | refine egrd_dec (fun _ => ?_) fun _ => ?_))
      refine (asks_wp (hW4.w.good hx5) tp f st.i (by omega) hfu hok.hi (by omega)).mono fun v6 K6 ⟨hv6, hx6⟩ => ?_
      subst hv6
      repeat' (first | (simp (disch := first | omega | (decide +kernel) | (repeat first | assumption | exact HExt.refl _ | refine HExt.set ?_ (by first | omega | (simp only [new_nx, set_nx]; omega)) _ | refine HExt.new ?_ _)) only [↓RD, RU, accW_t, accW_f, isW, ↓putF_get, ↓putF_none, ↓evF_t, ↓evF_c, ↓evF_f, new_nx, set_nx, new_get, set_get, getD_zero, getD_succ, u_not, pop, lop, aop, wop, resL, resV, tupleV, akV, isVal, isCell, Value.cells, ρ0, ρ1, ρ2, ρ3, ρ4, ↓reduceIte, Nat.reduceEqDiff, Nat.reduceAdd, Int.reduceOfNat, Int.reduceNegSucc, reduceCtorEq, ρ5, ρ6, ρ7, ρ8, srcR_c, src_n, src_v, src_s, bnd, lenV, capV, ρ9, ρ10, ρ11, ρ12, ρ13, ρ14, ρ15, ρ16, ρ17, ρ18, ρ19, ρ20, ρ21, ρ22, ρ23, ρ24, Kd.isRo, ρ25, ρ26, bldV, Nat.reduceLeDiff, Int.reduceMul, Int.reduceAdd, Int.reduceSub, Int.reduceToNat, maxLen_eq, zeros_one, appS_some, appV_n, appV_v, appH_t, appH_f, Kd.isEx, ρ27, partV, ρ28, ρ29, f8, f1]) | (with_reducible first | refine condK_dec (fun _ => ?_) fun _ => ?_ | refine grd_dec (fun _ => ?_) fun _ => ?_ | refine egrd_dec (fun _ => ?_) fun _ => ?_))
      all_goals exact ⟨100 - (n + 1), by omega, n + 1, (setW us tp f 0 st.i st.w), tp, p1, c1, wl, _, rfl, by omega, by omega, rfl, rfl, hW4.mv (hx5.trans hx6), hwl4, hul4⟩
    · rw [hk] at hcs
      have hlm0 := hW.M.lm
      have hlw0 := hW.M.lw
      repeat' (first | (simp (disch := first | omega | (decide +kernel) | (repeat first | assumption | exact HExt.refl _ | refine HExt.set ?_ (by first | omega | (simp only [new_nx, set_nx]; omega)) _ | refine HExt.new ?_ _)) only [↓RD, RU, accW_t, accW_f, isW, ↓putF_get, ↓putF_none, ↓evF_t, ↓evF_c, ↓evF_f, new_nx, set_nx, new_get, set_get, getD_zero, getD_succ, u_not, pop, lop, aop, wop, resL, resV, tupleV, akV, isVal, isCell, Value.cells, ρ0, ρ1, ρ2, ρ3, ρ4, ↓reduceIte, Nat.reduceEqDiff, Nat.reduceAdd, Int.reduceOfNat, Int.reduceNegSucc, reduceCtorEq, ρ5, ρ6, ρ7, ρ8, srcR_c, src_n, src_v, src_s, bnd, lenV, capV, ρ9, ρ10, ρ11, ρ12, ρ13, ρ14, ρ15, ρ16, ρ17, ρ18, ρ19, ρ20, ρ21, ρ22, ρ23, ρ24, Kd.isRo, ρ25, ρ26, bldV, Nat.reduceLeDiff, Int.reduceMul, Int.reduceAdd, Int.reduceSub, Int.reduceToNat, maxLen_eq, zeros_one, appS_some, appV_n, appV_v, appH_t, appH_f, Kd.isEx, ρ27, partV, ρ28, ρ29, f8, f1, hag, hobs, hcs, hobw, hw1, hgf, hmm, hpl, hev1, hmb]) | (with_reducible first | refine condK_dec (fun _ => ?_) fun _ => ?_ | refine grd_dec (fun _ => ?_) fun _ => ?_ | refine egrd_dec (fun _ => ?_) fun _ => ?_))
      obtain ⟨Kn, hKn⟩ : ∃ Kn, Kn = ((K.new (.cells [.int .i64 0, .int .i64 0, .int .i64 0, .int .u64 0, .slice none 0 0] 32 .ex)).set K.nx (.cells [.int .i64 2, .int .i64 st.f, .int .i64 st.i, .int .u64 st.w, .slice qv st.lv.length cv] 32 .ex)) := ⟨_, rfl⟩
      have hxn : HExt K Kn := by rw [hKn]; exact ns_ext
      have hnn : Kn.nx = K.nx + 1 := by rw [hKn]; rfl
      have hbn : Kn.ob K.nx = .cells [.int .i64 2, .int .i64 st.f, .int .i64 st.i, .int .u64 st.w, .slice qv st.lv.length cv] 32 .ex := by rw [hKn]; exact ns_ob
      rw [← hKn]
      refine (rsetword_wp (hW.w.good hxn) (by omega) tp f 6 st.i st.w (by decide) (by omega) hfu hok.hi hyu).mono fun v1 K1 ⟨hx1, p1, c1, hv1, hl1, hW1, hp1⟩ => ?_
      subst hv1
      have hM1 := hW.M.mv (hxn.trans hx1)
      have hn1 := hx1.nx
      have hb1 := (hx1.ob _ (by omega)).trans hbn
      have hm1 := ((hxn.trans hx1).ob _ hpl).trans hmm
      have hp2 : ∀ l o, p1 = some ⟨l, o, none⟩ → l ≠ mb ∧ l ≠ lr ∧ l ≠ H.nx := fun l o e => by
        rcases hp1 l o e with h | ⟨o', h⟩
        · omega
        · exact hW.wn l o' h
      repeat' (first | (simp (disch := first | omega | (decide +kernel) | (repeat first | assumption | exact HExt.refl _ | refine HExt.set ?_ (by first | omega | (simp only [new_nx, set_nx]; omega)) _ | refine HExt.new ?_ _)) only [↓RD, RU, accW_t, accW_f, isW, ↓putF_get, ↓putF_none, ↓evF_t, ↓evF_c, ↓evF_f, new_nx, set_nx, new_get, set_get, getD_zero, getD_succ, u_not, pop, lop, aop, wop, resL, resV, tupleV, akV, isVal, isCell, Value.cells, ρ0, ρ1, ρ2, ρ3, ρ4, ↓reduceIte, Nat.reduceEqDiff, Nat.reduceAdd, Int.reduceOfNat, Int.reduceNegSucc, reduceCtorEq, ρ5, ρ6, ρ7, ρ8, srcR_c, src_n, src_v, src_s, bnd, lenV, capV, ρ9, ρ10, ρ11, ρ12, ρ13, ρ14, ρ15, ρ16, ρ17, ρ18, ρ19, ρ20, ρ21, ρ22, ρ23, ρ24, Kd.isRo, ρ25, ρ26, bldV, Nat.reduceLeDiff, Int.reduceMul, Int.reduceAdd, Int.reduceSub, Int.reduceToNat, maxLen_eq, zeros_one, appS_some, appV_n, appV_v, appH_t, appH_f, Kd.isEx, ρ27, partV, ρ28, ρ29, hag, hmb, hb1, hm1, hpl]) | (with_reducible first | refine condK_dec (fun _ => ?_) fun _ => ?_ | refine grd_dec (fun _ => ?_) fun _ => ?_ | refine egrd_dec (fun _ => ?_) fun _ => ?_))
      obtain ⟨Kp, hKp⟩ : ∃ Kp, Kp = (K1.set H.nx (.cells [.slice p1 us.length c1, .int .i64 tp] 24 .ex)) := ⟨_, rfl⟩
      have hBp : But K1 Kp H.nx H.nx := by rw [hKp]; exact ⟨Nat.le_refl _, fun l _ h1 _ => by rw [set_get, if_neg h1]⟩
      have hnp : Kp.nx = K1.nx := by rw [hKp]; rfl
      have hmp : Kp.ob H.nx = .cells [.slice p1 us.length c1, .int .i64 tp] 24 .ex := by rw [hKp, set_get, if_pos rfl]
      rw [← hKp]
      have hMp := hM1.of_but hBp ⟨fun e => hW.pn.1 e.symm, fun e => hW.pn.1 e.symm⟩ ⟨fun e => hW.pn.2 e.symm, fun e => hW.pn.2 e.symm⟩
      refine (setreg_wp hMp f st.i st.w hfu hok.hi hyu).mono fun v2 K2 ⟨hv2, hB2, hM2⟩ => ?_
      subst hv2
      have hn2 := hB2.nx
      have hb2 := (hB2.ob K.nx (by omega) (by omega) (by omega)).trans ((hBp.ob K.nx (by omega) (by omega) (by omega)).trans hb1)
      have hm2 := (hB2.ob H.nx (by omega) hW.pn.1 hW.pn.2).trans hmp
      have hmb2 := hM2.hmb
      rw [hl1] at hmb2
      repeat' (first | (simp (disch := first | omega | (decide +kernel) | (repeat first | assumption | exact HExt.refl _ | refine HExt.set ?_ (by first | omega | (simp only [new_nx, set_nx]; omega)) _ | refine HExt.new ?_ _)) only [↓RD, RU, accW_t, accW_f, isW, ↓putF_get, ↓putF_none, ↓evF_t, ↓evF_c, ↓evF_f, new_nx, set_nx, new_get, set_get, getD_zero, getD_succ, u_not, pop, lop, aop, wop, resL, resV, tupleV, akV, isVal, isCell, Value.cells, ρ0, ρ1, ρ2, ρ3, ρ4, ↓reduceIte, Nat.reduceEqDiff, Nat.reduceAdd, Int.reduceOfNat, Int.reduceNegSucc, reduceCtorEq, ρ5, ρ6, ρ7, ρ8, srcR_c, src_n, src_v, src_s, bnd, lenV, capV, ρ9, ρ10, ρ11, ρ12, ρ13, ρ14, ρ15, ρ16, ρ17, ρ18, ρ19, ρ20, ρ21, ρ22, ρ23, ρ24, Kd.isRo, ρ25, ρ26, bldV, Nat.reduceLeDiff, Int.reduceMul, Int.reduceAdd, Int.reduceSub, Int.reduceToNat, maxLen_eq, zeros_one, appS_some, appV_n, appV_v, appH_t, appH_f, Kd.isEx, ρ27, partV, ρ28, ρ29, hag, hmb, hm2, hmb2]) | (with_reducible first | refine condK_dec (fun _ => ?_) fun _ => ?_ | refine grd_dec (fun _ => ?_) fun _ => ?_ | refine egrd_dec (fun _ => ?_) fun _ => ?_))
      have hw2 : Words K2 p1 c1 (setW us tp f 6 st.i st.w) := words_but (words_but hW1 hBp fun l o e => ⟨(hp2 l o e).2.2, (hp2 l o e).2.2⟩) hB2 fun l o e => ⟨(hp2 l o e).1, (hp2 l o e).2.1⟩
      have hG2 := grw_but (grw_but (hW.G.ext (hxn.trans hx1)) hBp (fun o n c e => (hW.vn _ o n c e).2.2.1 rfl) (fun o n c e => (hW.vn _ o n c e).2.2.1 rfl)) hB2 (fun o n c e => (hW.vn _ o n c e).1 rfl) (fun o n c e => (hW.vn _ o n c e).2.1 rfl)
      have hE2 : HExt H K2 := hB2.ext (hBp.ext ((hW.E.trans hxn).trans hx1) hW.lo.1 hW.lo.1) hW.lo.2.1 hW.lo.2.2
      rw [← hl1] at hm2
      have hW4 : WI H K2 H.nx mb lr cr kr (setW us tp f 6 st.i st.w) tp p1 c1 wl _ := ⟨hm2, by omega, hw2, hp2, hM2, hW.pn, hG2, fun b o n c e => ⟨(hW.vn b o n c e).1, (hW.vn b o n c e).2.1, (hW.vn b o n c e).2.2.1, fun o' e' => by
        rcases hp1 b o' e' with h | ⟨o2, h⟩
        · cases e; omega
        · exact (hW.vn b o n c e).2.2.2 o2 h⟩, hW.ne, hW.wu, hE2, by rw [hl1]; exact hW.tp, hW.lo⟩
      have hb4 := hb2
      have hn4 : K.nx < K2.nx := by omega
      have hul4 : (setW us tp f 6 st.i st.w).length = ws.length := hl1.trans hul
      have hwl4 : wl.length ≤ sm.length + 1 + (n + 1) := by omega
      rw [← hl1]
      refine (rsame_wp hW4.w.1 hW4.M.words.1 tp tp (by omega) (by omega)).mono fun v5 K5 ⟨hv5, hx5⟩ => ?_
      rw [dec_t ⟨rfl, rfl⟩] at hv5
      subst hv5
      have hb5 := (hx5.ob _ hn4).trans hb4
      have hm5 := (hx5.ob _ hW4.pl).trans hW4.m
      repeat' (first | (simp (disch := first | omega | (decide +kernel) | (repeat first | assumption | exact HExt.refl _ | refine HExt.set ?_ (by first | omega | (simp only [new_nx, set_nx]; omega)) _ | refine HExt.new ?_ _)) only [↓RD, RU, accW_t, accW_f, isW, ↓putF_get, ↓putF_none, ↓evF_t, ↓evF_c, ↓evF_f, new_nx, set_nx, new_get, set_get, getD_zero, getD_succ, u_not, pop, lop, aop, wop, resL, resV, tupleV, akV, isVal, isCell, Value.cells, ρ0, ρ1, ρ2, ρ3, ρ4, ↓reduceIte, Nat.reduceEqDiff, Nat.reduceAdd, Int.reduceOfNat, Int.reduceNegSucc, reduceCtorEq, ρ5, ρ6, ρ7, ρ8, srcR_c, src_n, src_v, src_s, bnd, lenV, capV, ρ9, ρ10, ρ11, ρ12, ρ13, ρ14, ρ15, ρ16, ρ17, ρ18, ρ19, ρ20, ρ21, ρ22, ρ23, ρ24, Kd.isRo, ρ25, ρ26, bldV, Nat.reduceLeDiff, Int.reduceMul, Int.reduceAdd, Int.reduceSub, Int.reduceToNat, maxLen_eq, zeros_one, appS_some, appV_n, appV_v, appH_t, appH_f, Kd.isEx, ρ27, partV, ρ28, ρ29, hag, hmb, hm5, hb5]) | (with_reducible first | refine condK_dec (fun _ => ?_) fun _ => ?_ | refine grd_dec (fun _ => ?_) fun _ => ?_ | refine egrd_dec (fun _ => ?_) fun _ => ?_))
      refine (asks_wp (hW4.w.good hx5) tp f st.i (by omega) hfu hok.hi (by omega)).mono fun v6 K6 ⟨hv6, hx6⟩ => ?_
      subst hv6
      repeat' (first | (simp (disch := first | omega | (decide +kernel) | (repeat first | assumption | exact HExt.refl _ | refine HExt.set ?_ (by first | omega | (simp only [new_nx, set_nx]; omega)) _ | refine HExt.new ?_ _)) only [↓RD, RU, accW_t, accW_f, isW, ↓putF_get, ↓putF_none, ↓evF_t, ↓evF_c, ↓evF_f, new_nx, set_nx, new_get, set_get, getD_zero, getD_succ, u_not, pop, lop, aop, wop, resL, resV, tupleV, akV, isVal, isCell, Value.cells, ρ0, ρ1, ρ2, ρ3, ρ4, ↓reduceIte, Nat.reduceEqDiff, Nat.reduceAdd, Int.reduceOfNat, Int.reduceNegSucc, reduceCtorEq, ρ5, ρ6, ρ7, ρ8, srcR_c, src_n, src_v, src_s, bnd, lenV, capV, ρ9, ρ10, ρ11, ρ12, ρ13, ρ14, ρ15, ρ16, ρ17, ρ18, ρ19, ρ20, ρ21, ρ22, ρ23, ρ24, Kd.isRo, ρ25, ρ26, bldV, Nat.reduceLeDiff, Int.reduceMul, Int.reduceAdd, Int.reduceSub, Int.reduceToNat, maxLen_eq, zeros_one, appS_some, appV_n, appV_v, appH_t, appH_f, Kd.isEx, ρ27, partV, ρ28, ρ29, f8, f1]) | (with_reducible first | refine condK_dec (fun _ => ?_) fun _ => ?_ | refine grd_dec (fun _ => ?_) fun _ => ?_ | refine egrd_dec (fun _ => ?_) fun _ => ?_))
      all_goals exact ⟨100 - (n + 1), by omega, n + 1, (setW us tp f 6 st.i st.w), tp, p1, c1, wl, _, rfl, by omega, by omega, rfl, rfl, hW4.mv (hx5.trans hx6), hwl4, hul4⟩
    · rw [hk] at hcs
      obtain ⟨lvN, hlvl, hlvw⟩ := wat_of hsvH
      rw [← hlvl] at hcs
      have hlvN : lvN.length ≤ 17592186044416 := by omega
      have hlq : ∀ x o, qv = some ⟨x, o, none⟩ → x ≠ mb ∧ x ≠ lr := fun x o e => by
        rcases hsvH with ⟨_, _, h | h | h⟩ | ⟨l', o', os, e', k, h, hl', _⟩
        · rw [h] at e; cases e
        · rw [h] at e; cases e
        · rw [h] at e; cases e
        · rw [h] at e; cases e
          have := hW.lo
          omega
      have hlm0 := hW.M.lm
      have hlw0 := hW.M.lw
      repeat' (first | (simp (disch := first | omega | (decide +kernel) | (repeat first | assumption | exact HExt.refl _ | refine HExt.set ?_ (by first | omega | (simp only [new_nx, set_nx]; omega)) _ | refine HExt.new ?_ _)) only [↓RD, RU, accW_t, accW_f, isW, ↓putF_get, ↓putF_none, ↓evF_t, ↓evF_c, ↓evF_f, new_nx, set_nx, new_get, set_get, getD_zero, getD_succ, u_not, pop, lop, aop, wop, resL, resV, tupleV, akV, isVal, isCell, Value.cells, ρ0, ρ1, ρ2, ρ3, ρ4, ↓reduceIte, Nat.reduceEqDiff, Nat.reduceAdd, Int.reduceOfNat, Int.reduceNegSucc, reduceCtorEq, ρ5, ρ6, ρ7, ρ8, srcR_c, src_n, src_v, src_s, bnd, lenV, capV, ρ9, ρ10, ρ11, ρ12, ρ13, ρ14, ρ15, ρ16, ρ17, ρ18, ρ19, ρ20, ρ21, ρ22, ρ23, ρ24, Kd.isRo, ρ25, ρ26, bldV, Nat.reduceLeDiff, Int.reduceMul, Int.reduceAdd, Int.reduceSub, Int.reduceToNat, maxLen_eq, zeros_one, appS_some, appV_n, appV_v, appH_t, appH_f, Kd.isEx, ρ27, partV, ρ28, ρ29, f8, f1, hag, hobs, hcs, hobw, hw1, hgf, hmm, hpl, hev1, hmb]) | (with_reducible first | refine condK_dec (fun _ => ?_) fun _ => ?_ | refine grd_dec (fun _ => ?_) fun _ => ?_ | refine egrd_dec (fun _ => ?_) fun _ => ?_))
      obtain ⟨Kn, hKn⟩ : ∃ Kn, Kn = ((K.new (.cells [.int .i64 0, .int .i64 0, .int .i64 0, .int .u64 0, .slice none 0 0] 32 .ex)).set K.nx (.cells [.int .i64 3, .int .i64 st.f, .int .i64 st.i, .int .u64 st.w, .slice qv lvN.length cv] 32 .ex)) := ⟨_, rfl⟩
      have hxn : HExt K Kn := by rw [hKn]; exact ns_ext
      have hnn : Kn.nx = K.nx + 1 := by rw [hKn]; rfl
      have hbn : Kn.ob K.nx = .cells [.int .i64 3, .int .i64 st.f, .int .i64 st.i, .int .u64 st.w, .slice qv lvN.length cv] 32 .ex := by rw [hKn]; exact ns_ob
      rw [← hKn]
      refine (rclear_wp (hW.w.good hxn) (by omega) ((hlvw.good hW.E).good hxn) hlvN tp f (by omega) hfu).mono fun v1 K1 ⟨us1, hus1, hx1, p1, c1, hv1, hl1, hW1, hp1⟩ => ?_
      subst hv1
      have hM1 := hW.M.mv (hxn.trans hx1)
      have hn1 := hx1.nx
      have hb1 := (hx1.ob _ (by omega)).trans hbn
      have hm1 := ((hxn.trans hx1).ob _ hpl).trans hmm
      have hp2 : ∀ l o, p1 = some ⟨l, o, none⟩ → l ≠ mb ∧ l ≠ lr ∧ l ≠ H.nx := fun l o e => by
        rcases hp1 l o e with h | ⟨o', h⟩
        · omega
        · exact hW.wn l o' h
      obtain ⟨eF, heF⟩ : ∃ eF : Int, (if isFr us tp f = true then 0 else 1) = eF := ⟨_, rfl⟩
      rw [heF]
      repeat' (first | (simp (disch := first | omega | (decide +kernel) | (repeat first | assumption | exact HExt.refl _ | refine HExt.set ?_ (by first | omega | (simp only [new_nx, set_nx]; omega)) _ | refine HExt.new ?_ _)) only [↓RD, RU, accW_t, accW_f, isW, ↓putF_get, ↓putF_none, ↓evF_t, ↓evF_c, ↓evF_f, new_nx, set_nx, new_get, set_get, getD_zero, getD_succ, u_not, pop, lop, aop, wop, resL, resV, tupleV, akV, isVal, isCell, Value.cells, ρ0, ρ1, ρ2, ρ3, ρ4, ↓reduceIte, Nat.reduceEqDiff, Nat.reduceAdd, Int.reduceOfNat, Int.reduceNegSucc, reduceCtorEq, ρ5, ρ6, ρ7, ρ8, srcR_c, src_n, src_v, src_s, bnd, lenV, capV, ρ9, ρ10, ρ11, ρ12, ρ13, ρ14, ρ15, ρ16, ρ17, ρ18, ρ19, ρ20, ρ21, ρ22, ρ23, ρ24, Kd.isRo, ρ25, ρ26, bldV, Nat.reduceLeDiff, Int.reduceMul, Int.reduceAdd, Int.reduceSub, Int.reduceToNat, maxLen_eq, zeros_one, appS_some, appV_n, appV_v, appH_t, appH_f, Kd.isEx, ρ27, partV, ρ28, ρ29, hag, hmb, hb1, hm1, hpl]) | (with_reducible first | refine condK_dec (fun _ => ?_) fun _ => ?_ | refine grd_dec (fun _ => ?_) fun _ => ?_ | refine egrd_dec (fun _ => ?_) fun _ => ?_))
      obtain ⟨Kp, hKp⟩ : ∃ Kp, Kp = (K1.set H.nx (.cells [.slice p1 us.length c1, .int .i64 tp] 24 .ex)) := ⟨_, rfl⟩
      have hBp : But K1 Kp H.nx H.nx := by rw [hKp]; exact ⟨Nat.le_refl _, fun l _ h1 _ => by rw [set_get, if_neg h1]⟩
      have hnp : Kp.nx = K1.nx := by rw [hKp]; rfl
      have hmp : Kp.ob H.nx = .cells [.slice p1 us.length c1, .int .i64 tp] 24 .ex := by rw [hKp, set_get, if_pos rfl]
      rw [← hKp]
      have hMp := hM1.of_but hBp ⟨fun e => hW.pn.1 e.symm, fun e => hW.pn.1 e.symm⟩ ⟨fun e => hW.pn.2 e.symm, fun e => hW.pn.2 e.symm⟩
      have hnH := hW.E.nx
      have hlvp : WAt Kp qv cv lvN := hlvw.good (hBp.ext ((hW.E.trans hxn).trans hx1) hW.lo.1 hW.lo.1)
      refine (clear_wp hMp hlvp hlq hlvN f hfu).mono fun v2 K2 ⟨hv2, hB2, us2, hM2, hus2⟩ => ?_
      have hue : us2 = us1 := by
        by_cases h : isFr us tp f = true
        · rw [if_pos h] at hus1 hus2; exact clI_eq hus2 hus1
        · rw [if_neg h] at hus1 hus2; exact hus2.trans hus1.symm
      subst hue
      rw [heF] at hv2
      subst hv2
      have hn2 := hB2.nx
      have hb2 := (hB2.ob K.nx (by omega) (by omega) (by omega)).trans ((hBp.ob K.nx (by omega) (by omega) (by omega)).trans hb1)
      have hm2 := (hB2.ob H.nx (by omega) hW.pn.1 hW.pn.2).trans hmp
      have hmb2 := hM2.hmb
      rw [hl1] at hmb2
      repeat' (first | (simp (disch := first | omega | (decide +kernel) | (repeat first | assumption | exact HExt.refl _ | refine HExt.set ?_ (by first | omega | (simp only [new_nx, set_nx]; omega)) _ | refine HExt.new ?_ _)) only [↓RD, RU, accW_t, accW_f, isW, ↓putF_get, ↓putF_none, ↓evF_t, ↓evF_c, ↓evF_f, new_nx, set_nx, new_get, set_get, getD_zero, getD_succ, u_not, pop, lop, aop, wop, resL, resV, tupleV, akV, isVal, isCell, Value.cells, ρ0, ρ1, ρ2, ρ3, ρ4, ↓reduceIte, Nat.reduceEqDiff, Nat.reduceAdd, Int.reduceOfNat, Int.reduceNegSucc, reduceCtorEq, ρ5, ρ6, ρ7, ρ8, srcR_c, src_n, src_v, src_s, bnd, lenV, capV, ρ9, ρ10, ρ11, ρ12, ρ13, ρ14, ρ15, ρ16, ρ17, ρ18, ρ19, ρ20, ρ21, ρ22, ρ23, ρ24, Kd.isRo, ρ25, ρ26, bldV, Nat.reduceLeDiff, Int.reduceMul, Int.reduceAdd, Int.reduceSub, Int.reduceToNat, maxLen_eq, zeros_one, appS_some, appV_n, appV_v, appH_t, appH_f, Kd.isEx, ρ27, partV, ρ28, ρ29, hag, hmb, hm2, hmb2]) | (with_reducible first | refine condK_dec (fun _ => ?_) fun _ => ?_ | refine grd_dec (fun _ => ?_) fun _ => ?_ | refine egrd_dec (fun _ => ?_) fun _ => ?_))
      have hw2 : Words K2 p1 c1 us2 := words_but (words_but hW1 hBp fun l o e => ⟨(hp2 l o e).2.2, (hp2 l o e).2.2⟩) hB2 fun l o e => ⟨(hp2 l o e).1, (hp2 l o e).2.1⟩
      have hG2 := grw_but (grw_but (hW.G.ext (hxn.trans hx1)) hBp (fun o n c e => (hW.vn _ o n c e).2.2.1 rfl) (fun o n c e => (hW.vn _ o n c e).2.2.1 rfl)) hB2 (fun o n c e => (hW.vn _ o n c e).1 rfl) (fun o n c e => (hW.vn _ o n c e).2.1 rfl)
      have hE2 : HExt H K2 := hB2.ext (hBp.ext ((hW.E.trans hxn).trans hx1) hW.lo.1 hW.lo.1) hW.lo.2.1 hW.lo.2.2
      rw [← hl1] at hm2
      have hW4 : WI H K2 H.nx mb lr cr kr us2 tp p1 c1 wl _ := ⟨hm2, by omega, hw2, hp2, hM2, hW.pn, hG2, fun b o n c e => ⟨(hW.vn b o n c e).1, (hW.vn b o n c e).2.1, (hW.vn b o n c e).2.2.1, fun o' e' => by
        rcases hp1 b o' e' with h | ⟨o2, h⟩
        · cases e; omega
        · exact (hW.vn b o n c e).2.2.2 o2 h⟩, hW.ne, hW.wu, hE2, by rw [hl1]; exact hW.tp, hW.lo⟩
      have hb4 := hb2
      have hn4 : K.nx < K2.nx := by omega
      have hul4 : us2.length = ws.length := hl1.trans hul
      have hwl4 : wl.length ≤ sm.length + 1 + (n + 1) := by omega
      rw [← hl1]
      refine (rsame_wp hW4.w.1 hW4.M.words.1 tp tp (by omega) (by omega)).mono fun v5 K5 ⟨hv5, hx5⟩ => ?_
      rw [dec_t ⟨rfl, rfl⟩] at hv5
      subst hv5
      have hb5 := (hx5.ob _ hn4).trans hb4
      have hm5 := (hx5.ob _ hW4.pl).trans hW4.m
      repeat' (first | (simp (disch := first | omega | (decide +kernel) | (repeat first | assumption | exact HExt.refl _ | refine HExt.set ?_ (by first | omega | (simp only [new_nx, set_nx]; omega)) _ | refine HExt.new ?_ _)) only [↓RD, RU, accW_t, accW_f, isW, ↓putF_get, ↓putF_none, ↓evF_t, ↓evF_c, ↓evF_f, new_nx, set_nx, new_get, set_get, getD_zero, getD_succ, u_not, pop, lop, aop, wop, resL, resV, tupleV, akV, isVal, isCell, Value.cells, ρ0, ρ1, ρ2, ρ3, ρ4, ↓reduceIte, Nat.reduceEqDiff, Nat.reduceAdd, Int.reduceOfNat, Int.reduceNegSucc, reduceCtorEq, ρ5, ρ6, ρ7, ρ8, srcR_c, src_n, src_v, src_s, bnd, lenV, capV, ρ9, ρ10, ρ11, ρ12, ρ13, ρ14, ρ15, ρ16, ρ17, ρ18, ρ19, ρ20, ρ21, ρ22, ρ23, ρ24, Kd.isRo, ρ25, ρ26, bldV, Nat.reduceLeDiff, Int.reduceMul, Int.reduceAdd, Int.reduceSub, Int.reduceToNat, maxLen_eq, zeros_one, appS_some, appV_n, appV_v, appH_t, appH_f, Kd.isEx, ρ27, partV, ρ28, ρ29, hag, hmb, hm5, hb5]) | (with_reducible first | refine condK_dec (fun _ => ?_) fun _ => ?_ | refine grd_dec (fun _ => ?_) fun _ => ?_ | refine egrd_dec (fun _ => ?_) fun _ => ?_))
      refine (asks_wp (hW4.w.good hx5) tp f st.i (by omega) hfu hok.hi (by omega)).mono fun v6 K6 ⟨hv6, hx6⟩ => ?_
      subst hv6
      repeat' (first | (simp (disch := first | omega | (decide +kernel) | (repeat first | assumption | exact HExt.refl _ | refine HExt.set ?_ (by first | omega | (simp only [new_nx, set_nx]; omega)) _ | refine HExt.new ?_ _)) only [↓RD, RU, accW_t, accW_f, isW, ↓putF_get, ↓putF_none, ↓evF_t, ↓evF_c, ↓evF_f, new_nx, set_nx, new_get, set_get, getD_zero, getD_succ, u_not, pop, lop, aop, wop, resL, resV, tupleV, akV, isVal, isCell, Value.cells, ρ0, ρ1, ρ2, ρ3, ρ4, ↓reduceIte, Nat.reduceEqDiff, Nat.reduceAdd, Int.reduceOfNat, Int.reduceNegSucc, reduceCtorEq, ρ5, ρ6, ρ7, ρ8, srcR_c, src_n, src_v, src_s, bnd, lenV, capV, ρ9, ρ10, ρ11, ρ12, ρ13, ρ14, ρ15, ρ16, ρ17, ρ18, ρ19, ρ20, ρ21, ρ22, ρ23, ρ24, Kd.isRo, ρ25, ρ26, bldV, Nat.reduceLeDiff, Int.reduceMul, Int.reduceAdd, Int.reduceSub, Int.reduceToNat, maxLen_eq, zeros_one, appS_some, appV_n, appV_v, appH_t, appH_f, Kd.isEx, ρ27, partV, ρ28, ρ29, f8, f1]) | (with_reducible first | refine condK_dec (fun _ => ?_) fun _ => ?_ | refine grd_dec (fun _ => ?_) fun _ => ?_ | refine egrd_dec (fun _ => ?_) fun _ => ?_))
      all_goals exact ⟨100 - (n + 1), by omega, n + 1, us2, tp, p1, c1, wl, _, rfl, by omega, by omega, rfl, rfl, hW4.mv (hx5.trans hx6), hwl4, hul4⟩
    · have hlm0 := hW.M.lm
      have hlw0 := hW.M.lw
      repeat' (first | (simp (disch := first | omega | (decide +kernel) | (repeat first | assumption | exact HExt.refl _ | refine HExt.set ?_ (by first | omega | (simp only [new_nx, set_nx]; omega)) _ | refine HExt.new ?_ _)) only [↓RD, RU, accW_t, accW_f, isW, ↓putF_get, ↓putF_none, ↓evF_t, ↓evF_c, ↓evF_f, new_nx, set_nx, new_get, set_get, getD_zero, getD_succ, u_not, pop, lop, aop, wop, resL, resV, tupleV, akV, isVal, isCell, Value.cells, ρ0, ρ1, ρ2, ρ3, ρ4, ↓reduceIte, Nat.reduceEqDiff, Nat.reduceAdd, Int.reduceOfNat, Int.reduceNegSucc, reduceCtorEq, ρ5, ρ6, ρ7, ρ8, srcR_c, src_n, src_v, src_s, bnd, lenV, capV, ρ9, ρ10, ρ11, ρ12, ρ13, ρ14, ρ15, ρ16, ρ17, ρ18, ρ19, ρ20, ρ21, ρ22, ρ23, ρ24, Kd.isRo, ρ25, ρ26, bldV, Nat.reduceLeDiff, Int.reduceMul, Int.reduceAdd, Int.reduceSub, Int.reduceToNat, maxLen_eq, zeros_one, appS_some, appV_n, appV_v, appH_t, appH_f, Kd.isEx, ρ27, partV, ρ28, ρ29, f8, f1, hag, hobs, hcs, hobw, hw1, hgf, hmm, hpl, hev1, hW.M.hmb, hk0, hk1', hk2', hk3, hmb]) | (with_reducible first | refine condK_dec (fun _ => ?_) fun _ => ?_ | refine grd_dec (fun _ => ?_) fun _ => ?_ | refine egrd_dec (fun _ => ?_) fun _ => ?_))
      obtain ⟨Kn, hKn⟩ : ∃ Kn, Kn = ((K.new (.cells [.int .i64 0, .int .i64 0, .int .i64 0, .int .u64 0, .slice none 0 0] 32 .ex)).set K.nx (.cells [.int .i64 st.k, .int .i64 st.f, .int .i64 st.i, .int .u64 st.w, .slice qv st.lv.length cv] 32 .ex)) := ⟨_, rfl⟩
      have hxn : HExt K Kn := by rw [hKn]; exact ns_ext
      have hnn : Kn.nx = K.nx + 1 := by rw [hKn]; rfl
      have hbn : Kn.ob K.nx = .cells [.int .i64 st.k, .int .i64 st.f, .int .i64 st.i, .int .u64 st.w, .slice qv st.lv.length cv] 32 .ex := by rw [hKn]; exact ns_ob
      rw [← hKn]
      have hW4 := hW.mv hxn
      have hb4 := hbn
      have hn4 : K.nx < Kn.nx := by omega
      have hul4 : us.length = ws.length := hul
      have hwl4 : wl.length ≤ sm.length + 1 + (n + 1) := by omega
      refine (rsame_wp hW4.w.1 hW4.M.words.1 tp tp (by omega) (by omega)).mono fun v5 K5 ⟨hv5, hx5⟩ => ?_
      rw [dec_t ⟨rfl, rfl⟩] at hv5
      subst hv5
      have hb5 := (hx5.ob _ hn4).trans hb4
      have hm5 := (hx5.ob _ hW4.pl).trans hW4.m
      repeat' (first | (simp (disch := first | omega | (decide +kernel) | (repeat first | assumption | exact HExt.refl _ | refine HExt.set ?_ (by first | omega | (simp only [new_nx, set_nx]; omega)) _ | refine HExt.new ?_ _)) only [↓RD, RU, accW_t, accW_f, isW, ↓putF_get, ↓putF_none, ↓evF_t, ↓evF_c, ↓evF_f, new_nx, set_nx, new_get, set_get, getD_zero, getD_succ, u_not, pop, lop, aop, wop, resL, resV, tupleV, akV, isVal, isCell, Value.cells, ρ0, ρ1, ρ2, ρ3, ρ4, ↓reduceIte, Nat.reduceEqDiff, Nat.reduceAdd, Int.reduceOfNat, Int.reduceNegSucc, reduceCtorEq, ρ5, ρ6, ρ7, ρ8, srcR_c, src_n, src_v, src_s, bnd, lenV, capV, ρ9, ρ10, ρ11, ρ12, ρ13, ρ14, ρ15, ρ16, ρ17, ρ18, ρ19, ρ20, ρ21, ρ22, ρ23, ρ24, Kd.isRo, ρ25, ρ26, bldV, Nat.reduceLeDiff, Int.reduceMul, Int.reduceAdd, Int.reduceSub, Int.reduceToNat, maxLen_eq, zeros_one, appS_some, appV_n, appV_v, appH_t, appH_f, Kd.isEx, ρ27, partV, ρ28, ρ29, hag, hmb, hm5, hb5]) | (with_reducible first | refine condK_dec (fun _ => ?_) fun _ => ?_ | refine grd_dec (fun _ => ?_) fun _ => ?_ | refine egrd_dec (fun _ => ?_) fun _ => ?_))
      refine (asks_wp (hW4.w.good hx5) tp f st.i (by omega) hfu hok.hi (by omega)).mono fun v6 K6 ⟨hv6, hx6⟩ => ?_
      subst hv6
      repeat' (first | (simp (disch := first | omega | (decide +kernel) | (repeat first | assumption | exact HExt.refl _ | refine HExt.set ?_ (by first | omega | (simp only [new_nx, set_nx]; omega)) _ | refine HExt.new ?_ _)) only [↓RD, RU, accW_t, accW_f, isW, ↓putF_get, ↓putF_none, ↓evF_t, ↓evF_c, ↓evF_f, new_nx, set_nx, new_get, set_get, getD_zero, getD_succ, u_not, pop, lop, aop, wop, resL, resV, tupleV, akV, isVal, isCell, Value.cells, ρ0, ρ1, ρ2, ρ3, ρ4, ↓reduceIte, Nat.reduceEqDiff, Nat.reduceAdd, Int.reduceOfNat, Int.reduceNegSucc, reduceCtorEq, ρ5, ρ6, ρ7, ρ8, srcR_c, src_n, src_v, src_s, bnd, lenV, capV, ρ9, ρ10, ρ11, ρ12, ρ13, ρ14, ρ15, ρ16, ρ17, ρ18, ρ19, ρ20, ρ21, ρ22, ρ23, ρ24, Kd.isRo, ρ25, ρ26, bldV, Nat.reduceLeDiff, Int.reduceMul, Int.reduceAdd, Int.reduceSub, Int.reduceToNat, maxLen_eq, zeros_one, appS_some, appV_n, appV_v, appH_t, appH_f, Kd.isEx, ρ27, partV, ρ28, ρ29, f8, f1]) | (with_reducible first | refine condK_dec (fun _ => ?_) fun _ => ?_ | refine grd_dec (fun _ => ?_) fun _ => ?_ | refine egrd_dec (fun _ => ?_) fun _ => ?_))
      all_goals exact ⟨100 - (n + 1), by omega, n + 1, us, tp, p', c'', wl, _, rfl, by omega, by omega, rfl, rfl, hW4.mv (hx5.trans hx6), hwl4, hul4⟩
end Can
end Go.Proofs.Ytopnmlonapimjaa
