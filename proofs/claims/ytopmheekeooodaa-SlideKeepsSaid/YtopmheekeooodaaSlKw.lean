/- SlideKeeps: the walk of the law. -/
import Derived.Test.YtopmheekeooodaaSlKe
namespace Go.Proofs.Ytopmheekeooodaa
namespace Can
open Go Go.RowKit
set_option linter.unusedSimpArgs false
set_option linter.unusedVariables false
set_option maxRecDepth 4000
theorem wf_u64 {x : Int} (h : 0 ≤ x ∧ x < 18446744073709551616) : (Lit.int .u64 x).wf = true := by
  simp [Lit.wf, IntKind.min, IntKind.max, IntKind.signed, IntKind.bits]; omega
/-- What Reach answers, in one form. -/
noncomputable def rxs (ws : List Int) (top : Int) (roots : List Int) : List Int := match formF ws top with
  | some l => if rtB ws top roots = true then intsN (rcL ws roots (l.map Int.toNat)) else []
  | none => []
noncomputable def rer (ws : List Int) (top : Int) (roots : List Int) : Int := if rtB ws top roots = true then 0 else 3
theorem reach_out {H K : CH} {ws roots : List Int} {top : Int} {v : Value} (h : ReachOut H ws top roots v K) : HExt H K ∧ ∃ u, v = .tuple #[u, .int .i64 (rer ws top roots)] ∧ Grw H 3 1 (ints .i64) K u (rxs ws top roots) := by
  obtain ⟨hx, ⟨h1, rfl⟩ | ⟨h1, ls, u, hf, rfl, hG⟩⟩ := h
  · refine ⟨hx, _, by unfold rer; rw [h1]; rfl, ?_⟩
    have : rxs ws top roots = [] := by
      unfold rxs
      split
      · rw [h1]; rfl
      · rfl
    rw [this]; exact .nil
  · refine ⟨hx, u, by unfold rer; rw [if_pos h1], ?_⟩
    have hl : (intsN ls).map Int.toNat = ls := by simp [intsN, Function.comp_def]
    have : rxs ws top roots = intsN (rcL ws roots ls) := by
      unfold rxs
      rw [hf]
      simp only [h1, if_true, hl]
    rw [this]; exact hG
theorem rxs_ok {ws roots : List Int} {top : Int} (hu : ∀ x ∈ ws, 0 ≤ x ∧ x < 18446744073709551616) : (rxs ws top roots).length ≤ 1048576 ∧ ∀ x ∈ rxs ws top roots, 1 ≤ x ∧ (Lit.int .i64 x).wf = true := by
  unfold rxs
  split
  · rename_i l hf
    split
    · obtain ⟨tn, rfl⟩ := form_top hf
      obtain ⟨ls, rfl, hF, hr⟩ := form_range hu hf
      have hl : (intsN ls).map Int.toNat = ls := by simp [intsN, Function.comp_def]
      rw [hl]
      refine ⟨rcL_bound hF, fun x hx => ⟨?_, rcL_wf hF x hx⟩⟩
      obtain ⟨a, ha, rfl⟩ := List.mem_map.1 hx
      refine (hr (a : Int) (List.mem_map.2 ⟨a, ?_, rfl⟩)).1
      unfold rcL at ha
      exact (List.mem_filter.1 ha).1
    · exact ⟨Nat.zero_le _, fun x hx => by cases hx⟩
  · exact ⟨Nat.zero_le _, fun x hx => by cases hx⟩
theorem sl_room {H : CH} {b : Nat} {roots : List Int} (hl : b < H.nx) (hb : H.ob b = .cells (roomL roots 6) 42 .ex) (hu : ∀ x ∈ roots, 0 ≤ x ∧ x < 18446744073709551616) (hrl : roots.length ≤ 17592186043904) : SlAt 1 (CInt .u64) H (some ⟨b, 0, none⟩) (roots.length + 6) roots := by
  refine .inr ⟨b, 0, _, _, _, rfl, hl, by omega, by rw [maxLen_eq]; omega, hb, by rw [roomL_len (Nat.le_refl _)]; omega, fun i hi => ⟨?_, wf_u64 (hu _ (List.getElem_mem hi))⟩⟩
  unfold roomL
  rw [List.append_assoc, Nat.zero_add, Nat.mul_one, List.drop_append_of_le_length (by simp; omega), List.take_append_of_le_length (by simp; omega), ← List.map_drop, ← List.map_take, List.drop_eq_getElem_cons hi]
  rfl
theorem rer_or {ws roots : List Int} {top : Int} : rer ws top roots = 0 ∨ rer ws top roots = 3 := by
  unfold rer
  split
  · exact .inl rfl
  · exact .inr rfl
theorem col_out {H K : CH} {pm b n c : Nat} {kd : Kd} {ws roots : List Int} {top : Int} {v : Value} (hn : n = ws.length) (hob : H.ob b = .cells (ws.map (.int .u64)) 42 kd) (hpm : H.ob pm = .cells [.slice (some ⟨b, 0, none⟩) n c, .int .i64 top] 24 .ex) (h : ColOut H pm b n c kd ws top roots v K) :
    H.nx ≤ K.nx ∧ (∀ x, x < H.nx → x ≠ b → x ≠ pm → K.ob x = H.ob x) ∧ ∃ u rs wl tt, v = .tuple #[u, .int .i64 (rer ws top roots)] ∧ Grw H 42 1 (ints .u64) K u rs ∧ rs.length ≤ roots.length ∧ K.ob b = .cells wl 42 kd ∧ wl.length = n ∧ K.ob pm = .cells [.slice (some ⟨b, 0, none⟩) n c, .int .i64 tt] 24 .ex := by
  obtain ⟨h1, h2, ⟨hr, rfl, h3, h4⟩ | ⟨hr, ls, u, hf, rfl, hG, h3, h4⟩⟩ := h
  · exact ⟨h1, h2, _, [], _, _, by unfold rer; rw [hr]; rfl, .nil, Nat.zero_le _, h3.trans hob, by rw [List.length_map, hn], h4.trans hpm⟩
  · exact ⟨h1, h2, u, _, _, _, by unfold rer; rw [if_pos hr], hG, by simp, h3, by rw [fnW_len], h4⟩
theorem apartK_wp {H : CH} {b : Nat} {qr : Option Addr} {rs cr : Nat} {rin nin cin l nw cw : Nat} {e : TypeId} {kr kw : Kd} {wr wi ww : List Value} (hob : H.ob b = .cells [.slice qr rs cr, .slice (some ⟨rin, 0, none⟩) nin cin, .slice (some ⟨l, 0, none⟩) nw cw] e .ex) (he : e ≠ 42)
    (hr : (qr = none ∧ rs = 0 ∧ cr = 0) ∨ ∃ x, qr = some ⟨x, 0, none⟩ ∧ x ≠ b ∧ x ≠ rin ∧ x ≠ l ∧ H.ob x = .cells wr 42 kr ∧ kr.isRo = false) (hi : H.ob rin = .cells wi 42 .ex) (hw : H.ob l = .cells ww 42 kw) (hkw : kw.isRo = false)
    (d1 : rin ≠ b) (d2 : l ≠ b) (d3 : rin ≠ l) (l1 : rs ≤ 17592186044000) (l2 : nin ≤ 17592186044000) (l3 : nw ≤ 17592186044000) :
    WpF TK 12 [.slice (some ⟨b, 0, none⟩) 3 3] H fun v K => v = .bool true := by
  have hcall : ∃ K, ∀ B, CallC Try.prog B 12 [.slice (some ⟨b, 0, none⟩) 3 3] H (.bool true) K := by
    have main : ∀ (p0 : Bool) (x0 : Nat), (p0 = true → qr = some ⟨x0, 0, none⟩ ∧ x0 ≠ b ∧ x0 ≠ rin ∧ x0 ≠ l ∧ H.ob x0 = .cells wr 42 kr ∧ kr.isRo = false) → (p0 = false → qr = none ∧ rs = 0 ∧ cr = 0) → ∃ K, ∀ B, CallC Try.prog B 12 [.slice (some ⟨b, 0, none⟩) 3 3] H (.bool true) K := by
      intro p0 x0 ht hf
      refine ⟨_, fun B => apart_call (b := b) (n := 3) (P := fun k => match k with | 0 => p0 | _ => true) (L := fun k => match k with | 0 => rs | 1 => nin | _ => nw) (x := fun k => match k with | 0 => x0 | 1 => rin | _ => l) (o := fun _ => 0) (c := fun k => match k with | 0 => cr | 1 => cin | _ => cw) (q := fun k => match k with | 0 => qr | 1 => some ⟨rin, 0, none⟩ | _ => some ⟨l, 0, none⟩) (by decide) (by decide) hob rfl he rfl ?_ ?_ ?_ ?_ ?_⟩
      · intro k hk
        match k, hk with
        | 0, _ => rfl
        | 1, _ => rfl
        | 2, _ => rfl
      · intro k hk hp
        match k, hk, hp with
        | 0, _, hp => obtain ⟨h1, h2, h3, h4, h5, h6⟩ := ht hp; exact ⟨h1, h2, _, _, h5, h6⟩
        | 1, _, _ => exact ⟨rfl, d1, _, _, hi, rfl⟩
        | 2, _, _ => exact ⟨rfl, d2, _, _, hw, hkw⟩
      · intro k hk hp
        match k, hk, hp with
        | 0, _, hp => obtain ⟨h1, h2, h3⟩ := hf hp; exact ⟨h2, h3, .inl h1⟩
      · intro k k' hk hk' hp hp' hx
        match k, hk, k', hk', hp, hp', hx with
        | 0, _, 0, _, _, _, _ => rfl
        | 1, _, 1, _, _, _, _ => rfl
        | 2, _, 2, _, _, _, _ => rfl
        | 0, _, 1, _, hp, _, hx => exact absurd hx (ht hp).2.2.1
        | 0, _, 2, _, hp, _, hx => exact absurd hx (ht hp).2.2.2.1
        | 1, _, 0, _, _, hp, hx => exact absurd hx.symm (ht hp).2.2.1
        | 2, _, 0, _, _, hp, hx => exact absurd hx.symm (ht hp).2.2.2.1
        | 1, _, 2, _, _, _, hx => exact absurd hx d3
        | 2, _, 1, _, _, _, hx => exact absurd hx.symm d3
      · intro k hk
        match k, hk with
        | 0, _ => exact l1
        | 1, _ => exact l2
        | 2, _ => exact l3
    rcases hr with h | ⟨x, h⟩
    · exact main false 0 (fun h => by cases h) fun _ => h
    · exact main true x (fun _ => h) fun h => by cases h
  obtain ⟨K, hK⟩ := hcall
  exact wpF_tell (by rfl) ⟨.bool true, K, ⟨fun _ => rfl, fun h => absurd rfl h⟩, hK⟩ fun v H' hS => hS.1 rfl
theorem keeps_law {H : CH} {p q : Option Addr} {c d : Nat} {ws roots : List Int} (hw : Words H p c ws) (top : Int) (h1 : -9223372036854775808 ≤ top) (h2 : top ≤ 9223372036854775807) (h5 : ws.length * 8 ≤ 140737488351232) (hrs : SlAt 1 (CInt .u64) H q d roots) (hrl : roots.length ≤ 17592186043904) :
    WpF TK 3 [.agg #[.slice p ws.length c, .int .i64 top], .slice q roots.length d] H fun v K => v = .bool true := by
  have hu := sl_u64 hw.1
  have hur := sl_u64 hrs
  refine wpF_rS (by rfl) (by kernel_rfl) ?_; (conv in (rF _ _).body => reduce); (conv in (rF _ _).res => reduce)
  repeat' (first | (simp (disch := first | omega | (decide +kernel) | (repeat first | assumption | exact HExt.refl _ | refine HExt.set ?_ (by first | omega | (simp only [new_nx, set_nx]; omega)) _ | refine HExt.new ?_ _)) only [↓RD, RU, accW_t, accW_f, isW, ↓putF_get, ↓putF_none, ↓evF_t, ↓evF_c, ↓evF_f, new_nx, set_nx, new_get, set_get, getD_zero, getD_succ, u_not, pop, lop, aop, wop, resL, resV, tupleV, akV, isVal, isCell, Value.cells, ρ0, ρ1, ρ2, ρ3, ρ4, ↓reduceIte, Nat.reduceEqDiff, Nat.reduceAdd, Int.reduceOfNat, Int.reduceNegSucc, reduceCtorEq, ρ5, ρ6, ρ7, ρ8, srcR_c, src_n, src_v, src_s, bnd, lenV, capV, ρ9, ρ10, ρ11, ρ12, ρ13, ρ14, ρ15, ρ16, ρ17, ρ18, ρ19, ρ20, ρ21, ρ22, ρ23, ρ24, Kd.isRo, ρ25, ρ26, bldV, Nat.reduceLeDiff, Int.reduceMul, Int.reduceAdd, Int.reduceSub, Int.reduceToNat, maxLen_eq, zeros_one, appS_some, appV_n, appV_v, appH_t, appH_f, Kd.isEx, ρ27, partV, CH.set_set, lkV, lkR, isKey, mupV, nxtV, ρ28, ρ29, knownK_iff]) | (with_reducible first | refine condK_dec (fun _ => ?_) fun _ => ?_ | refine grd_dec (fun _ => ?_) fun _ => ?_ | refine egrd_dec (fun _ => ?_) fun _ => ?_))
  have hE0 : HExt H (H.new (.cells [.slice p ws.length c, .int .i64 top] 24 .ex)) := by (repeat (first | assumption | exact HExt.refl _ | (refine HExt.set ?_ (by first | omega | (simp only [new_nx, set_nx]; omega)) _) | (refine HExt.new ?_ _)))
  have hb0 : (H.new (.cells [.slice p ws.length c, .int .i64 top] 24 .ex)).ob H.nx = .cells [.slice p ws.length c, .int .i64 top] 24 .ex := by repeat' (first | (simp (disch := first | omega | (decide +kernel) | (repeat first | assumption | exact HExt.refl _ | refine HExt.set ?_ (by first | omega | (simp only [new_nx, set_nx]; omega)) _ | refine HExt.new ?_ _)) only [↓RD, RU, accW_t, accW_f, isW, ↓putF_get, ↓putF_none, ↓evF_t, ↓evF_c, ↓evF_f, new_nx, set_nx, new_get, set_get, getD_zero, getD_succ, u_not, pop, lop, aop, wop, resL, resV, tupleV, akV, isVal, isCell, Value.cells, ρ0, ρ1, ρ2, ρ3, ρ4, ↓reduceIte, Nat.reduceEqDiff, Nat.reduceAdd, Int.reduceOfNat, Int.reduceNegSucc, reduceCtorEq, ρ5, ρ6, ρ7, ρ8, srcR_c, src_n, src_v, src_s, bnd, lenV, capV, ρ9, ρ10, ρ11, ρ12, ρ13, ρ14, ρ15, ρ16, ρ17, ρ18, ρ19, ρ20, ρ21, ρ22, ρ23, ρ24, Kd.isRo, ρ25, ρ26, bldV, Nat.reduceLeDiff, Int.reduceMul, Int.reduceAdd, Int.reduceSub, Int.reduceToNat, maxLen_eq, zeros_one, appS_some, appV_n, appV_v, appH_t, appH_f, Kd.isEx, ρ27, partV, CH.set_set, lkV, lkR, isKey, mupV, nxtV, ρ28, ρ29]) | (with_reducible first | refine condK_dec (fun _ => ?_) fun _ => ?_ | refine grd_dec (fun _ => ?_) fun _ => ?_ | refine egrd_dec (fun _ => ?_) fun _ => ?_))
  refine (told_wp (rcopy_wp (hw.good hE0) top (by omega)) (by rfl) (by decide) (by kernel_rfl)).mono fun v K1 ⟨hx1, l, c', kd, hv, hl1, hl2, hob, hro, hc1, hc2⟩ => ?_
  subst hv
  have hE1 := hE0.trans hx1
  have hn1 : H.nx + 1 ≤ K1.nx := hx1.nx
  have hl1' : H.nx + 1 ≤ l := hl1
  have hb1 : K1.ob H.nx = _ := (hx1.ob _ (by show H.nx < H.nx + 1; omega)).trans hb0
  repeat' (first | (simp (disch := first | omega | (decide +kernel) | (repeat first | assumption | exact HExt.refl _ | refine HExt.set ?_ (by first | omega | (simp only [new_nx, set_nx]; omega)) _ | refine HExt.new ?_ _)) only [↓RD, RU, accW_t, accW_f, isW, ↓putF_get, ↓putF_none, ↓evF_t, ↓evF_c, ↓evF_f, new_nx, set_nx, new_get, set_get, getD_zero, getD_succ, u_not, pop, lop, aop, wop, resL, resV, tupleV, akV, isVal, isCell, Value.cells, ρ0, ρ1, ρ2, ρ3, ρ4, ↓reduceIte, Nat.reduceEqDiff, Nat.reduceAdd, Int.reduceOfNat, Int.reduceNegSucc, reduceCtorEq, ρ5, ρ6, ρ7, ρ8, srcR_c, src_n, src_v, src_s, bnd, lenV, capV, ρ9, ρ10, ρ11, ρ12, ρ13, ρ14, ρ15, ρ16, ρ17, ρ18, ρ19, ρ20, ρ21, ρ22, ρ23, ρ24, Kd.isRo, ρ25, ρ26, bldV, Nat.reduceLeDiff, Int.reduceMul, Int.reduceAdd, Int.reduceSub, Int.reduceToNat, maxLen_eq, zeros_one, appS_some, appV_n, appV_v, appH_t, appH_f, Kd.isEx, ρ27, partV, CH.set_set, lkV, lkR, isKey, mupV, nxtV, ρ28, ρ29]) | (with_reducible first | refine condK_dec (fun _ => ?_) fun _ => ?_ | refine grd_dec (fun _ => ?_) fun _ => ?_ | refine egrd_dec (fun _ => ?_) fun _ => ?_))
  obtain ⟨K2, hK2⟩ : ∃ K2, K2 = ((K1.new (.cells [.slice none 0 0, .int .i64 0] 24 .ex)).set K1.nx (.cells [.slice (some ⟨l, 0, none⟩) ws.length c', .int .i64 top] 24 .ex)) := ⟨_, rfl⟩
  have hn2 : K2.nx = K1.nx + 1 := by rw [hK2]; rfl
  have hold2 : ∀ x, x < K1.nx → K2.ob x = K1.ob x := fun x hx => by rw [hK2, set_get, if_neg (by omega), new_get, if_neg (by omega)]
  have hm2 : K2.ob K1.nx = .cells [.slice (some ⟨l, 0, none⟩) ws.length c', .int .i64 top] 24 .ex := by rw [hK2, set_get, if_pos rfl]
  have hE2 : HExt H K2 := ⟨by omega, fun x hx => (hold2 x (by omega)).trans (hE1.ob x hx)⟩
  have hob2 := (hold2 l (by omega)).trans hob
  rw [← hK2]
  refine (told_wp (room_wp (hrs.good (CInt.good _) hE2) hrl) (by rfl) (by decide) (by kernel_rfl)).mono fun v K3 ⟨hx3, hv, hn3, hin3⟩ => ?_
  subst hv
  have hm3 := (hx3.ob K1.nx (by omega)).trans hm2
  have hob3 := (hx3.ob l (by omega)).trans hob2
  have hE3 := hE2.trans hx3
  have hW3 := words_own (show l < K3.nx by omega) hob3 hc1 (by rw [maxLen_eq]; exact hc2) (fun x hx => wf_u64 (hu x hx))
  have hR3 := sl_room (b := K2.nx) (by omega) hin3 hur hrl
  repeat' (first | (simp (disch := first | omega | (decide +kernel) | (repeat first | assumption | exact HExt.refl _ | refine HExt.set ?_ (by first | omega | (simp only [new_nx, set_nx]; omega)) _ | refine HExt.new ?_ _)) only [↓RD, RU, accW_t, accW_f, isW, ↓putF_get, ↓putF_none, ↓evF_t, ↓evF_c, ↓evF_f, new_nx, set_nx, new_get, set_get, getD_zero, getD_succ, u_not, pop, lop, aop, wop, resL, resV, tupleV, akV, isVal, isCell, Value.cells, ρ0, ρ1, ρ2, ρ3, ρ4, ↓reduceIte, Nat.reduceEqDiff, Nat.reduceAdd, Int.reduceOfNat, Int.reduceNegSucc, reduceCtorEq, ρ5, ρ6, ρ7, ρ8, srcR_c, src_n, src_v, src_s, bnd, lenV, capV, ρ9, ρ10, ρ11, ρ12, ρ13, ρ14, ρ15, ρ16, ρ17, ρ18, ρ19, ρ20, ρ21, ρ22, ρ23, ρ24, Kd.isRo, ρ25, ρ26, bldV, Nat.reduceLeDiff, Int.reduceMul, Int.reduceAdd, Int.reduceSub, Int.reduceToNat, maxLen_eq, zeros_one, appS_some, appV_n, appV_v, appH_t, appH_f, Kd.isEx, ρ27, partV, CH.set_set, lkV, lkR, isKey, mupV, nxtV, ρ28, ρ29, hm3]) | (with_reducible first | refine condK_dec (fun _ => ?_) fun _ => ?_ | refine grd_dec (fun _ => ?_) fun _ => ?_ | refine egrd_dec (fun _ => ?_) fun _ => ?_))
  refine (told_wp (reach_wp hW3 top h1 h2 (by omega) hR3) (by rfl) (by decide) (by kernel_rfl)).mono fun v K4 hv => ?_
  obtain ⟨hx4, u, rfl, hG⟩ := reach_out hv
  have hm4 := (hx4.ob K1.nx (by omega)).trans hm3
  have hn4 := hx4.nx
  have hR4 := hR3.good (CInt.good _) hx4
  repeat' (first | (simp (disch := first | omega | (decide +kernel) | (repeat first | assumption | exact HExt.refl _ | refine HExt.set ?_ (by first | omega | (simp only [new_nx, set_nx]; omega)) _ | refine HExt.new ?_ _)) only [↓RD, RU, accW_t, accW_f, isW, ↓putF_get, ↓putF_none, ↓evF_t, ↓evF_c, ↓evF_f, new_nx, set_nx, new_get, set_get, getD_zero, getD_succ, u_not, pop, lop, aop, wop, resL, resV, tupleV, akV, isVal, isCell, Value.cells, ρ0, ρ1, ρ2, ρ3, ρ4, ↓reduceIte, Nat.reduceEqDiff, Nat.reduceAdd, Int.reduceOfNat, Int.reduceNegSucc, reduceCtorEq, ρ5, ρ6, ρ7, ρ8, srcR_c, src_n, src_v, src_s, bnd, lenV, capV, ρ9, ρ10, ρ11, ρ12, ρ13, ρ14, ρ15, ρ16, ρ17, ρ18, ρ19, ρ20, ρ21, ρ22, ρ23, ρ24, Kd.isRo, ρ25, ρ26, bldV, Nat.reduceLeDiff, Int.reduceMul, Int.reduceAdd, Int.reduceSub, Int.reduceToNat, maxLen_eq, zeros_one, appS_some, appV_n, appV_v, appH_t, appH_f, Kd.isEx, ρ27, partV, CH.set_set, lkV, lkR, isKey, mupV, nxtV, ρ28, ρ29, hm4]) | (with_reducible first | refine condK_dec (fun _ => ?_) fun _ => ?_ | refine grd_dec (fun _ => ?_) fun _ => ?_ | refine egrd_dec (fun _ => ?_) fun _ => ?_))
  refine (told_wp (reach_wp (hW3.good hx4) top h1 h2 (by omega) hR4) (by rfl) (by decide) (by kernel_rfl)).mono fun v K5 hv => ?_
  obtain ⟨hx5, u2, rfl, hG2⟩ := reach_out hv
  have hm5 := (hx5.ob K1.nx (by omega)).trans hm4
  have hE45 := hx4.trans hx5
  have hE5 := hE3.trans hE45
  have hb5 : K5.ob H.nx = _ := (hE45.ob _ (by omega)).trans ((hx3.ob _ (by omega)).trans ((hold2 _ (by omega)).trans hb1))
  repeat' (first | (simp (disch := first | omega | (decide +kernel) | (repeat first | assumption | exact HExt.refl _ | refine HExt.set ?_ (by first | omega | (simp only [new_nx, set_nx]; omega)) _ | refine HExt.new ?_ _)) only [↓RD, RU, accW_t, accW_f, isW, ↓putF_get, ↓putF_none, ↓evF_t, ↓evF_c, ↓evF_f, new_nx, set_nx, new_get, set_get, getD_zero, getD_succ, u_not, pop, lop, aop, wop, resL, resV, tupleV, akV, isVal, isCell, Value.cells, ρ0, ρ1, ρ2, ρ3, ρ4, ↓reduceIte, Nat.reduceEqDiff, Nat.reduceAdd, Int.reduceOfNat, Int.reduceNegSucc, reduceCtorEq, ρ5, ρ6, ρ7, ρ8, srcR_c, src_n, src_v, src_s, bnd, lenV, capV, ρ9, ρ10, ρ11, ρ12, ρ13, ρ14, ρ15, ρ16, ρ17, ρ18, ρ19, ρ20, ρ21, ρ22, ρ23, ρ24, Kd.isRo, ρ25, ρ26, bldV, Nat.reduceLeDiff, Int.reduceMul, Int.reduceAdd, Int.reduceSub, Int.reduceToNat, maxLen_eq, zeros_one, appS_some, appV_n, appV_v, appH_t, appH_f, Kd.isEx, ρ27, partV, CH.set_set, lkV, lkR, isKey, mupV, nxtV, ρ28, ρ29, hm5, hb5]) | (with_reducible first | refine condK_dec (fun _ => ?_) fun _ => ?_ | refine grd_dec (fun _ => ?_) fun _ => ?_ | refine egrd_dec (fun _ => ?_) fun _ => ?_))
  refine (told_wp (rsame_wp (hW3.good hE45).1 (hw.good hE5).1 top top (by omega) (by omega)) (by rfl) (by decide) (by kernel_rfl)).mono fun v K6 ⟨hv, hx6⟩ => ?_
  rw [decide_eq_true ⟨rfl, rfl⟩] at hv
  subst hv
  obtain ⟨xs, hxs⟩ : ∃ xs, rxs ws top roots = xs := ⟨_, rfl⟩
  obtain ⟨hxl, hxo⟩ := rxs_ok (roots := roots) (top := top) hu
  rw [hxs] at hG hG2 hxl hxo
  obtain ⟨qa, ca, rfl, sa⟩ := (hG.ext (hx5.trans hx6)).sl (by omega) fun x hx => (hxo x hx).2
  obtain ⟨qb, cb, rfl, sb⟩ := (hG2.ext hx6).sl (by omega) fun x hx => (hxo x hx).2
  repeat' (first | (simp (disch := first | omega | (decide +kernel) | (repeat first | assumption | exact HExt.refl _ | refine HExt.set ?_ (by first | omega | (simp only [new_nx, set_nx]; omega)) _ | refine HExt.new ?_ _)) only [↓RD, RU, accW_t, accW_f, isW, ↓putF_get, ↓putF_none, ↓evF_t, ↓evF_c, ↓evF_f, new_nx, set_nx, new_get, set_get, getD_zero, getD_succ, u_not, pop, lop, aop, wop, resL, resV, tupleV, akV, isVal, isCell, Value.cells, ρ0, ρ1, ρ2, ρ3, ρ4, ↓reduceIte, Nat.reduceEqDiff, Nat.reduceAdd, Int.reduceOfNat, Int.reduceNegSucc, reduceCtorEq, ρ5, ρ6, ρ7, ρ8, srcR_c, src_n, src_v, src_s, bnd, lenV, capV, ρ9, ρ10, ρ11, ρ12, ρ13, ρ14, ρ15, ρ16, ρ17, ρ18, ρ19, ρ20, ρ21, ρ22, ρ23, ρ24, Kd.isRo, ρ25, ρ26, bldV, Nat.reduceLeDiff, Int.reduceMul, Int.reduceAdd, Int.reduceSub, Int.reduceToNat, maxLen_eq, zeros_one, appS_some, appV_n, appV_v, appH_t, appH_f, Kd.isEx, ρ27, partV, CH.set_set, lkV, lkR, isKey, mupV, nxtV, ρ28, ρ29]) | (with_reducible first | refine condK_dec (fun _ => ?_) fun _ => ?_ | refine grd_dec (fun _ => ?_) fun _ => ?_ | refine egrd_dec (fun _ => ?_) fun _ => ?_))
  refine (told_wp (same_wp sa sb (by omega) (by omega)) (by rfl) (by decide) (by kernel_rfl)).mono fun v K7 ⟨hv, hK7⟩ => ?_
  rw [decide_eq_true rfl] at hv
  subst hv
  rw [hK7]
  have hG6 := hG.ext (hx5.trans hx6)
  have hG26 := hG2.ext hx6
  have hn5 := hx5.nx
  have hn6 := hx6.nx
  repeat' (first | (simp (disch := first | omega | (decide +kernel) | (repeat first | assumption | exact HExt.refl _ | refine HExt.set ?_ (by first | omega | (simp only [new_nx, set_nx]; omega)) _ | refine HExt.new ?_ _)) only [↓RD, RU, accW_t, accW_f, isW, ↓putF_get, ↓putF_none, ↓evF_t, ↓evF_c, ↓evF_f, new_nx, set_nx, new_get, set_get, getD_zero, getD_succ, u_not, pop, lop, aop, wop, resL, resV, tupleV, akV, isVal, isCell, Value.cells, ρ0, ρ1, ρ2, ρ3, ρ4, ↓reduceIte, Nat.reduceEqDiff, Nat.reduceAdd, Int.reduceOfNat, Int.reduceNegSucc, reduceCtorEq, ρ5, ρ6, ρ7, ρ8, srcR_c, src_n, src_v, src_s, bnd, lenV, capV, ρ9, ρ10, ρ11, ρ12, ρ13, ρ14, ρ15, ρ16, ρ17, ρ18, ρ19, ρ20, ρ21, ρ22, ρ23, ρ24, Kd.isRo, ρ25, ρ26, bldV, Nat.reduceLeDiff, Int.reduceMul, Int.reduceAdd, Int.reduceSub, Int.reduceToNat, maxLen_eq, zeros_one, appS_some, appV_n, appV_v, appH_t, appH_f, Kd.isEx, ρ27, partV, CH.set_set, lkV, lkR, isKey, mupV, nxtV, ρ28, ρ29]) | (with_reducible first | refine condK_dec (fun _ => ?_) fun _ => ?_ | refine grd_dec (fun _ => ?_) fun _ => ?_ | refine egrd_dec (fun _ => ?_) fun _ => ?_))
  refine loop_w (fun m fr K => ∃ i : Nat, m = xs.length - i ∧ i ≤ xs.length ∧ fr 11 = .int .i64 (i : Int) ∧ K.nx = K6.nx ∧ (∀ y, (∀ o, qa ≠ some ⟨y, o, none⟩) → K.ob y = K6.ob y) ∧ Grw K3 3 1 (ints .i64) K (.slice qa xs.length ca) (List.replicate i (-1) ++ xs.drop i)) (n := xs.length) ⟨0, rfl, Nat.zero_le _, by (repeat' (first | (simp (disch := first | omega | (decide +kernel) | (repeat first | assumption | exact HExt.refl _ | refine HExt.set ?_ (by first | omega | (simp only [new_nx, set_nx]; omega)) _ | refine HExt.new ?_ _)) only [↓RD, RU, accW_t, accW_f, isW, ↓putF_get, ↓putF_none, ↓evF_t, ↓evF_c, ↓evF_f, new_nx, set_nx, new_get, set_get, getD_zero, getD_succ, u_not, pop, lop, aop, wop, resL, resV, tupleV, akV, isVal, isCell, Value.cells, ρ0, ρ1, ρ2, ρ3, ρ4, ↓reduceIte, Nat.reduceEqDiff, Nat.reduceAdd, Int.reduceOfNat, Int.reduceNegSucc, reduceCtorEq, ρ5, ρ6, ρ7, ρ8, srcR_c, src_n, src_v, src_s, bnd, lenV, capV, ρ9, ρ10, ρ11, ρ12, ρ13, ρ14, ρ15, ρ16, ρ17, ρ18, ρ19, ρ20, ρ21, ρ22, ρ23, ρ24, Kd.isRo, ρ25, ρ26, bldV, Nat.reduceLeDiff, Int.reduceMul, Int.reduceAdd, Int.reduceSub, Int.reduceToNat, maxLen_eq, zeros_one, appS_some, appV_n, appV_v, appH_t, appH_f, Kd.isEx, ρ27, partV, CH.set_set, lkV, lkR, isKey, mupV, nxtV, ρ28, ρ29]) | (with_reducible first | refine condK_dec (fun _ => ?_) fun _ => ?_ | refine grd_dec (fun _ => ?_) fun _ => ?_ | refine egrd_dec (fun _ => ?_) fun _ => ?_))); all_goals rfl, rfl, fun _ _ => rfl, by simpa using hG6⟩ ?_
  rintro m fr K ⟨i, rfl, hi, f11, hKn, hKo, hKG⟩ hag
  have hlen : (List.replicate i (-1) ++ xs.drop i : List Int).length = xs.length := by simp; omega
  by_cases hil : i < xs.length
  case pos =>
    rcases hKG with ⟨h0, _⟩ | ⟨b, kd2, hq, hb1, hb2, hb3, hb4⟩
    · rw [h0] at hlen; simp at hlen; omega
    · rw [hlen] at hq
      cases hq
      rw [flat_ints] at hb3
      have hml : ((List.replicate i (-1) ++ xs.drop i : List Int).map (Value.int .i64)).length = xs.length := by rw [List.length_map]; exact hlen
      have hset : setCells ((List.replicate i (-1) ++ xs.drop i : List Int).map (Value.int .i64)) i [.int .i64 (-1)] = (List.replicate (i + 1) (-1) ++ xs.drop (i + 1) : List Int).map (Value.int .i64) := by
        unfold setCells
        rw [List.map_append, List.map_replicate, List.take_append_of_le_length (by simp), List.take_of_length_le (by simp), List.drop_append, List.drop_eq_nil_of_le (by simp), List.nil_append, List.map_append, List.map_replicate, List.replicate_succ', ← List.map_drop]
        simp only [List.length_replicate, List.drop_drop, List.length_cons, List.length_nil]
        rw [show i + (i + (0 + 1) - i) = i + 1 by omega]
      obtain ⟨cs, hcs⟩ : ∃ cs, (List.replicate i (-1) ++ xs.drop i : List Int).map (Value.int .i64) = cs := ⟨_, rfl⟩
      obtain ⟨cs2, hcs2⟩ : ∃ cs, (List.replicate (i + 1) (-1) ++ xs.drop (i + 1) : List Int).map (Value.int .i64) = cs := ⟨_, rfl⟩
      rw [hcs] at hb3 hml hset
      rw [hcs2] at hset
      repeat' (first | (simp (disch := first | omega | (decide +kernel) | (repeat first | assumption | exact HExt.refl _ | refine HExt.set ?_ (by first | omega | (simp only [new_nx, set_nx]; omega)) _ | refine HExt.new ?_ _)) only [↓r_seq, ↓r_block, ↓seqK_n, ↓seqK_r, ↓seqK_e, ↓blockK_n, ↓blockK_r, ↓blockK_e, ↓loopI_n, ↓loopI_r, ↓loopI_e, ↓funK_n, ↓funK_r, ↓r_reg, ↓r_drw, ↓r_cond, ↓condK_t, ↓condK_f, ↓i_cons, ↓eitemK, ↓e_nil, ↓e_cons, ↓e_grd, ↓egrd_tt, ↓egrd_ff, ↓egrd_tf, ↓egrd_ft, ↓egrd_s, ↓drwK, ↓r_drw2, ↓chk_nil, ↓chk_n, ↓chk_g, agL, agV_tt, agV_ff, agV_tf, agV_ft, agV_s, agE, accW_t, accW_f, isW, ↓i_grd, ↓grd_tt, ↓grd_ff, ↓grd_tf, ↓grd_ft, ↓grd_s, ↓itemK, ↓o_p, ↓o_l, ↓o_a, ↓o_w, ↓o_call, ↓o_callv, ↓callvK_f, ↓callvK_y, ↓r_range, ↓rangeV_f, ↓putF_get, ↓putF_none, ↓evF_t, ↓evF_c, ↓evF_f, new_nx, set_nx, new_get, set_get, optV_some, optW_some, optA_some, finK_some, ↓wpI_nil, ↓wpR_skip, ↓wpR_exit, ↓wpR_ret, getD_zero, getD_succ, b_add, b_sub, b_mul, b_quo, b_rem, b_eql, b_neq, b_lss, b_leq, b_gtr, b_geq, u_not, w_i64, w_u64, w_u8, t_div, t_mod, pop, lop, aop, wop, resL, resV, tupleV, akV, isVal, isCell, Value.cells, List.map_cons, List.map_nil, Bool.not_true, Bool.not_false, Option.map_some, ↓reduceIte, Nat.reduceEqDiff, Nat.reduceAdd, Int.reduceOfNat, Int.reduceNegSucc, decide_true, decide_false, reduceCtorEq, List.getElem?_cons_zero, List.getElem?_cons_succ, List.length_cons, List.length_nil, setc_0, setc_s, srcR_c, src_n, src_v, src_r, src_s, bnd, lenV, capV, Option.isSome_none, Option.isNone_none, Option.isSome_some, Option.isNone_some, Bool.or_false, Bool.or_true, Bool.true_or, Bool.false_or, List.take_succ_cons, List.take_zero, List.drop_succ_cons, List.drop_zero, List.cons_append, List.nil_append, List.append_nil, List.take_nil, List.drop_nil, List.all_cons, List.all_nil, Bool.and_true, Bool.true_and, List.size_toArray, List.getElem?_toArray, List.toList_toArray, bldV, Nat.reduceLeDiff, Nat.le_refl, u_neg, b_or0, Int.reduceMul, Int.reduceAdd, Int.reduceSub, Int.zero_mul, Int.zero_add, Int.add_zero, b_and3, b_and8, b_and24, b_shr2, b_shrs2, b_shr8, b_shr32, b_shr56, b_shl2, b_shl8, b_shl32, toNat_add1, toNat_add2, toNat_addn, toNat_add2n, Int.reduceToNat, maxLen_eq, zeros_one, zeros_two, zeros_three, take_mapl, List.length_map, List.map_append, List.length_append, beq_self_eq_true, beq_true, beq_false, Bool.false_xor, Bool.true_xor, Bool.xor_false, Bool.xor_true, dec_t, dec_f, ↓w_app, appS_some, appV_n, appV_v, appV_r, appR_c, appH_t, appH_f, Kd.isEx, Bool.false_and, partV, if_pos, if_neg, Nat.mul_one, Nat.one_mul, Nat.zero_add, Nat.add_zero, Int.toNat_natCast, true_and, and_true, f11, hag, hb3, hb4, hml, hset]) | (with_reducible first | refine condK_dec (fun _ => ?_) fun _ => ?_ | refine grd_dec (fun _ => ?_) fun _ => ?_ | refine egrd_dec (fun _ => ?_) fun _ => ?_))
      refine ⟨_, by omega, i + 1, rfl, by omega, rfl, hKn, fun y hy => ?_, .inr ⟨b, kd2, ?_, hb1, hb2, ?_, hb4⟩⟩
      · rw [if_neg (fun e => hy 0 (by rw [e]))]
        exact hKo y hy
      · simp; omega
      · rw [set_get, if_pos rfl, flat_ints, hcs2]
  case neg =>
  have : i = xs.length := by omega
  subst this
  repeat' (first | (simp (disch := first | omega | (decide +kernel) | (repeat first | assumption | exact HExt.refl _ | refine HExt.set ?_ (by first | omega | (simp only [new_nx, set_nx]; omega)) _ | refine HExt.new ?_ _)) only [↓RD, RU, accW_t, accW_f, isW, ↓putF_get, ↓putF_none, ↓evF_t, ↓evF_c, ↓evF_f, new_nx, set_nx, new_get, set_get, getD_zero, getD_succ, u_not, pop, lop, aop, wop, resL, resV, tupleV, akV, isVal, isCell, Value.cells, ρ0, ρ1, ρ2, ρ3, ρ4, ↓reduceIte, Nat.reduceEqDiff, Nat.reduceAdd, Int.reduceOfNat, Int.reduceNegSucc, reduceCtorEq, ρ5, ρ6, ρ7, ρ8, srcR_c, src_n, src_v, src_s, bnd, lenV, capV, ρ9, ρ10, ρ11, ρ12, ρ13, ρ14, ρ15, ρ16, ρ17, ρ18, ρ19, ρ20, ρ21, ρ22, ρ23, ρ24, Kd.isRo, ρ25, ρ26, bldV, Nat.reduceLeDiff, Int.reduceMul, Int.reduceAdd, Int.reduceSub, Int.reduceToNat, maxLen_eq, zeros_one, appS_some, appV_n, appV_v, appH_t, appH_f, Kd.isEx, ρ27, partV, CH.set_set, lkV, lkR, isKey, mupV, nxtV, ρ28, ρ29, f11, hag]) | (with_reducible first | refine condK_dec (fun _ => ?_) fun _ => ?_ | refine grd_dec (fun _ => ?_) fun _ => ?_ | refine egrd_dec (fun _ => ?_) fun _ => ?_))
  have hdrop : (List.replicate xs.length (-1) ++ xs.drop xs.length : List Int) = List.replicate xs.length (-1) := by rw [List.drop_eq_nil_of_le (Nat.le_refl _), List.append_nil]
  rw [hdrop] at hKG
  have hn3 := hx3.nx
  have hn4 := hx4.nx
  obtain ⟨K', hK'⟩ : ∃ K', K' = (K.new (CObj.cells [.int .i64 (-1), .int .i64 (-1), .int .i64 (-1)] 3 .ex)) := ⟨_, rfl⟩
  have hn' : K'.nx = K6.nx + 1 := by rw [hK']; show K.nx + 1 = _; omega
  have ho' : ∀ y, y < K6.nx → (∀ o, qa ≠ some ⟨y, o, none⟩) → K'.ob y = K6.ob y := fun y hy hq => by
    rw [hK', new_get, if_neg (by omega)]; exact hKo y hq
  have hG' : Grw K3 3 1 (ints .i64) K' (.slice qa xs.length ca) (List.replicate xs.length (-1)) := hKG.ext (by rw [hK']; exact HExt.new (HExt.refl _) _)
  rw [← hK']
  refine app2 (ys := [-1, -1, -1]) hG' (by omega) (by rw [List.length_replicate]; show (xs.length + 3) * 8 ≤ _; omega) rfl rfl fun v' K8 hG8 hn8 ho8 _ => ?_
  have hqa : ∀ y o, qa = some ⟨y, o, none⟩ → K3.nx ≤ y ∧ y < K4.nx := fun y o e => by
    rcases hG with ⟨_, h⟩ | ⟨b, kd, h, g1, g2, _⟩
    · rw [e] at h; cases h
    · rw [e] at h; cases h; exact ⟨g1, g2⟩
  have hold8 : ∀ y, y < K6.nx → (y < K3.nx ∨ K4.nx ≤ y) → K8.ob y = K6.ob y := fun y hy h => by
    rw [ho8 y (by omega) fun o n c e => ?_]
    · exact ho' y hy fun o e => by have := hqa y o e; omega
    · cases e
      have := hqa y o rfl; omega
  have hold83 : ∀ y, y < K3.nx → K8.ob y = K3.ob y := fun y hy => by
    rw [hold8 y (by omega) (.inl hy)]
    exact (hx6.ob y (by omega)).trans (hE45.ob y hy)
  have hE8 : HExt H K8 := ⟨by have := hE3.nx; omega, fun y hy => by
    have := hE3.nx
    exact (hold83 y (by omega)).trans (hE3.ob y hy)⟩
  have sb8 : SlAt 1 (CInt .i64) K8 qb cb xs := sb.mvG (fun _ _ _ _ h => h) (by omega) fun y o e => by
    rcases hG26 with ⟨_, h⟩ | ⟨b, kd, h, g1, g2, _⟩
    · rw [e] at h; cases h
    · rw [e] at h; cases h; exact hold8 _ g2 (.inr g1)
  obtain ⟨gl, hgl⟩ : ∃ gl, (List.replicate xs.length (-1) ++ [-1, -1, -1] : List Int) = gl := ⟨_, rfl⟩
  have hgll : gl.length = xs.length + 3 := by rw [← hgl]; simp
  have hglm : ∀ x ∈ gl, x = -1 := fun x hx => by
    rw [← hgl] at hx
    rcases List.mem_append.1 hx with h | h
    · exact List.eq_of_mem_replicate h
    · simpa using h
  rw [hgl] at hG8
  obtain ⟨qg, cg, rfl, sg⟩ := hG8.sl (by omega) (fun x hx => by rw [hglm x hx]; decide)
  repeat' (first | (simp (disch := first | omega | (decide +kernel) | (repeat first | assumption | exact HExt.refl _ | refine HExt.set ?_ (by first | omega | (simp only [new_nx, set_nx]; omega)) _ | refine HExt.new ?_ _)) only [↓RD, RU, accW_t, accW_f, isW, ↓putF_get, ↓putF_none, ↓evF_t, ↓evF_c, ↓evF_f, new_nx, set_nx, new_get, set_get, getD_zero, getD_succ, u_not, pop, lop, aop, wop, resL, resV, tupleV, akV, isVal, isCell, Value.cells, ρ0, ρ1, ρ2, ρ3, ρ4, ↓reduceIte, Nat.reduceEqDiff, Nat.reduceAdd, Int.reduceOfNat, Int.reduceNegSucc, reduceCtorEq, ρ5, ρ6, ρ7, ρ8, srcR_c, src_n, src_v, src_s, bnd, lenV, capV, ρ9, ρ10, ρ11, ρ12, ρ13, ρ14, ρ15, ρ16, ρ17, ρ18, ρ19, ρ20, ρ21, ρ22, ρ23, ρ24, Kd.isRo, ρ25, ρ26, bldV, Nat.reduceLeDiff, Int.reduceMul, Int.reduceAdd, Int.reduceSub, Int.reduceToNat, maxLen_eq, zeros_one, appS_some, appV_n, appV_v, appH_t, appH_f, Kd.isEx, ρ27, partV, CH.set_set, lkV, lkR, isKey, mupV, nxtV, ρ28, ρ29, f11, hag]) | (with_reducible first | refine condK_dec (fun _ => ?_) fun _ => ?_ | refine grd_dec (fun _ => ?_) fun _ => ?_ | refine egrd_dec (fun _ => ?_) fun _ => ?_))
  refine loop_w (fun m fr K => ∃ i : Nat, m = xs.length - i ∧ i ≤ xs.length ∧ fr 13 = .int .i64 (i : Int) ∧ K = K8) (n := xs.length) ⟨0, rfl, Nat.zero_le _, by (repeat' (first | (simp (disch := first | omega | (decide +kernel) | (repeat first | assumption | exact HExt.refl _ | refine HExt.set ?_ (by first | omega | (simp only [new_nx, set_nx]; omega)) _ | refine HExt.new ?_ _)) only [↓RD, RU, accW_t, accW_f, isW, ↓putF_get, ↓putF_none, ↓evF_t, ↓evF_c, ↓evF_f, new_nx, set_nx, new_get, set_get, getD_zero, getD_succ, u_not, pop, lop, aop, wop, resL, resV, tupleV, akV, isVal, isCell, Value.cells, ρ0, ρ1, ρ2, ρ3, ρ4, ↓reduceIte, Nat.reduceEqDiff, Nat.reduceAdd, Int.reduceOfNat, Int.reduceNegSucc, reduceCtorEq, ρ5, ρ6, ρ7, ρ8, srcR_c, src_n, src_v, src_s, bnd, lenV, capV, ρ9, ρ10, ρ11, ρ12, ρ13, ρ14, ρ15, ρ16, ρ17, ρ18, ρ19, ρ20, ρ21, ρ22, ρ23, ρ24, Kd.isRo, ρ25, ρ26, bldV, Nat.reduceLeDiff, Int.reduceMul, Int.reduceAdd, Int.reduceSub, Int.reduceToNat, maxLen_eq, zeros_one, appS_some, appV_n, appV_v, appH_t, appH_f, Kd.isEx, ρ27, partV, CH.set_set, lkV, lkR, isKey, mupV, nxtV, ρ28, ρ29]) | (with_reducible first | refine condK_dec (fun _ => ?_) fun _ => ?_ | refine grd_dec (fun _ => ?_) fun _ => ?_ | refine egrd_dec (fun _ => ?_) fun _ => ?_))); all_goals rfl, rfl⟩ ?_
  rintro m fr2 K ⟨i, rfl, hi, f13, rfl⟩ hag2
  by_cases hil : i < xs.length
  case pos =>
    obtain ⟨y, o, os, e, kk, rfl, i2, i3, i4, i5, i6, i7, i8⟩ := sb8.ints (by omega)
    obtain ⟨y', o', os', e', kk', rfl, j2, j3, j4, j5, j6, j7, j8⟩ := sg.ints (by omega)
    have g1 := i7 i hil
    have g2 := j7 i (by omega)
    have g3 : gl.getD i 0 = -1 := by
      rw [List.getD_eq_getElem?_getD, List.getElem?_eq_getElem (by omega)]
      exact hglm _ (List.getElem_mem _)
    have g4 : decide (xs.getD i 0 < 1) = false := by
      rw [List.getD_eq_getElem?_getD, List.getElem?_eq_getElem hil]
      exact decide_eq_false (by have := (hxo _ (List.getElem_mem hil)).1; show ¬ xs[i] < 1; omega)
    rw [g3] at g2
    repeat' (first | (simp (disch := first | omega | (decide +kernel) | (repeat first | assumption | exact HExt.refl _ | refine HExt.set ?_ (by first | omega | (simp only [new_nx, set_nx]; omega)) _ | refine HExt.new ?_ _)) only [↓RD, RU, accW_t, accW_f, isW, ↓putF_get, ↓putF_none, ↓evF_t, ↓evF_c, ↓evF_f, new_nx, set_nx, new_get, set_get, getD_zero, getD_succ, u_not, pop, lop, aop, wop, resL, resV, tupleV, akV, isVal, isCell, Value.cells, ρ0, ρ1, ρ2, ρ3, ρ4, ↓reduceIte, Nat.reduceEqDiff, Nat.reduceAdd, Int.reduceOfNat, Int.reduceNegSucc, reduceCtorEq, ρ5, ρ6, ρ7, ρ8, srcR_c, src_n, src_v, src_s, bnd, lenV, capV, ρ9, ρ10, ρ11, ρ12, ρ13, ρ14, ρ15, ρ16, ρ17, ρ18, ρ19, ρ20, ρ21, ρ22, ρ23, ρ24, Kd.isRo, ρ25, ρ26, bldV, Nat.reduceLeDiff, Int.reduceMul, Int.reduceAdd, Int.reduceSub, Int.reduceToNat, maxLen_eq, zeros_one, appS_some, appV_n, appV_v, appH_t, appH_f, Kd.isEx, ρ27, partV, CH.set_set, lkV, lkR, isKey, mupV, nxtV, ρ28, ρ29, f13, hag2, hag, i5, j5, g1, g2, g4, hgll]) | (with_reducible first | refine condK_dec (fun _ => ?_) fun _ => ?_ | refine grd_dec (fun _ => ?_) fun _ => ?_ | refine egrd_dec (fun _ => ?_) fun _ => ?_))
    exact ⟨_, by omega, i + 1, rfl, by omega, rfl⟩
  case neg =>
  repeat' (first | (simp (disch := first | omega | (decide +kernel) | (repeat first | assumption | exact HExt.refl _ | refine HExt.set ?_ (by first | omega | (simp only [new_nx, set_nx]; omega)) _ | refine HExt.new ?_ _)) only [↓RD, RU, accW_t, accW_f, isW, ↓putF_get, ↓putF_none, ↓evF_t, ↓evF_c, ↓evF_f, new_nx, set_nx, new_get, set_get, getD_zero, getD_succ, u_not, pop, lop, aop, wop, resL, resV, tupleV, akV, isVal, isCell, Value.cells, ρ0, ρ1, ρ2, ρ3, ρ4, ↓reduceIte, Nat.reduceEqDiff, Nat.reduceAdd, Int.reduceOfNat, Int.reduceNegSucc, reduceCtorEq, ρ5, ρ6, ρ7, ρ8, srcR_c, src_n, src_v, src_s, bnd, lenV, capV, ρ9, ρ10, ρ11, ρ12, ρ13, ρ14, ρ15, ρ16, ρ17, ρ18, ρ19, ρ20, ρ21, ρ22, ρ23, ρ24, Kd.isRo, ρ25, ρ26, bldV, Nat.reduceLeDiff, Int.reduceMul, Int.reduceAdd, Int.reduceSub, Int.reduceToNat, maxLen_eq, zeros_one, appS_some, appV_n, appV_v, appH_t, appH_f, Kd.isEx, ρ27, partV, CH.set_set, lkV, lkR, isKey, mupV, nxtV, ρ28, ρ29, f13, hag2, hag]) | (with_reducible first | refine condK_dec (fun _ => ?_) fun _ => ?_ | refine grd_dec (fun _ => ?_) fun _ => ?_ | refine egrd_dec (fun _ => ?_) fun _ => ?_))
  have hin8 : K.ob K2.nx = .cells (roomL roots 6) 42 .ex := (hold83 _ (by omega)).trans hin3
  have hob8 := (hold83 l (by omega)).trans hob3
  have hm8 := (hold83 K1.nx (by omega)).trans hm3
  refine (told_wp (collect_wp (pm := K1.nx) top hm8 hob8 hro rfl hc1 hc2 (by omega) (by omega) (by omega) (fun x hx => wf_u64 (hu x hx)) h1 h2 (sl_room (by omega) hin8 hur hrl) (fun lo o e => by cases e; omega) hrl) (by rfl) (by decide) (by kernel_rfl)).mono fun v K9 hv => ?_
  obtain ⟨hn9, ho9, u9, rs, wl, tt, rfl, hG9, hrsl, hob9, hwl, hm9⟩ := col_out rfl hob8 hm8 hv
  have hE9 : HExt H K9 := ⟨by have := hE8.nx; omega, fun y hy => by
    have := hE3.nx
    exact (ho9 y (by omega) (by omega) (by omega)).trans (hE8.ob y hy)⟩
  have hin9 := (ho9 K2.nx (by omega) (by omega) (by omega)).trans hin8
  have hkept := told_wp (kept_wp (hrs.good (CInt.good _) hE9) hrl hin9) (by rfl) (by decide) (by kernel_rfl)
  obtain ⟨qr, cr, rfl, hqr⟩ : ∃ qr cr, u9 = .slice qr rs.length cr ∧ ((qr = none ∧ rs.length = 0 ∧ cr = 0) ∨ ∃ x kr, qr = some ⟨x, 0, none⟩ ∧ K.nx ≤ x ∧ x < K9.nx ∧ K9.ob x = .cells (rs.flatMap (ints .u64)) 42 kr ∧ kr.isRo = false) := by
    rcases hG9 with ⟨h, rfl⟩ | ⟨x, kr, rfl, g1, g2, g3, g4⟩
    · exact ⟨none, 0, by rw [h]; rfl, .inl ⟨rfl, by rw [h]; rfl, rfl⟩⟩
    · exact ⟨_, _, rfl, .inr ⟨x, kr, rfl, g1, g2, g3, g4⟩⟩
  rcases rer_or (ws := ws) (roots := roots) (top := top) with hrr | hrr
  · rw [hrr]
    repeat' (first | (simp (disch := first | omega | (decide +kernel) | (repeat first | assumption | exact HExt.refl _ | refine HExt.set ?_ (by first | omega | (simp only [new_nx, set_nx]; omega)) _ | refine HExt.new ?_ _)) only [↓RD, RU, accW_t, accW_f, isW, ↓putF_get, ↓putF_none, ↓evF_t, ↓evF_c, ↓evF_f, new_nx, set_nx, new_get, set_get, getD_zero, getD_succ, u_not, pop, lop, aop, wop, resL, resV, tupleV, akV, isVal, isCell, Value.cells, ρ0, ρ1, ρ2, ρ3, ρ4, ↓reduceIte, Nat.reduceEqDiff, Nat.reduceAdd, Int.reduceOfNat, Int.reduceNegSucc, reduceCtorEq, ρ5, ρ6, ρ7, ρ8, srcR_c, src_n, src_v, src_s, bnd, lenV, capV, ρ9, ρ10, ρ11, ρ12, ρ13, ρ14, ρ15, ρ16, ρ17, ρ18, ρ19, ρ20, ρ21, ρ22, ρ23, ρ24, Kd.isRo, ρ25, ρ26, bldV, Nat.reduceLeDiff, Int.reduceMul, Int.reduceAdd, Int.reduceSub, Int.reduceToNat, maxLen_eq, zeros_one, appS_some, appV_n, appV_v, appH_t, appH_f, Kd.isEx, ρ27, partV, CH.set_set, lkV, lkR, isKey, mupV, nxtV, ρ28, ρ29, hrr, f13, hag2, hag]) | (with_reducible first | refine condK_dec (fun _ => ?_) fun _ => ?_ | refine grd_dec (fun _ => ?_) fun _ => ?_ | refine egrd_dec (fun _ => ?_) fun _ => ?_))
    refine hkept.mono fun v K10 ⟨hv, hK10⟩ => ?_
    subst hv
    rw [hK10]
    repeat' (first | (simp (disch := first | omega | (decide +kernel) | (repeat first | assumption | exact HExt.refl _ | refine HExt.set ?_ (by first | omega | (simp only [new_nx, set_nx]; omega)) _ | refine HExt.new ?_ _)) only [↓RD, RU, accW_t, accW_f, isW, ↓putF_get, ↓putF_none, ↓evF_t, ↓evF_c, ↓evF_f, new_nx, set_nx, new_get, set_get, getD_zero, getD_succ, u_not, pop, lop, aop, wop, resL, resV, tupleV, akV, isVal, isCell, Value.cells, ρ0, ρ1, ρ2, ρ3, ρ4, ↓reduceIte, Nat.reduceEqDiff, Nat.reduceAdd, Int.reduceOfNat, Int.reduceNegSucc, reduceCtorEq, ρ5, ρ6, ρ7, ρ8, srcR_c, src_n, src_v, src_s, bnd, lenV, capV, ρ9, ρ10, ρ11, ρ12, ρ13, ρ14, ρ15, ρ16, ρ17, ρ18, ρ19, ρ20, ρ21, ρ22, ρ23, ρ24, Kd.isRo, ρ25, ρ26, bldV, Nat.reduceLeDiff, Int.reduceMul, Int.reduceAdd, Int.reduceSub, Int.reduceToNat, maxLen_eq, zeros_one, appS_some, appV_n, appV_v, appH_t, appH_f, Kd.isEx, ρ27, partV, CH.set_set, lkV, lkR, isKey, mupV, nxtV, ρ28, ρ29, hrr, f13, hag2, hag, hm9]) | (with_reducible first | refine condK_dec (fun _ => ?_) fun _ => ?_ | refine grd_dec (fun _ => ?_) fun _ => ?_ | refine egrd_dec (fun _ => ?_) fun _ => ?_))
    obtain ⟨K11, hK11⟩ : ∃ K11, K11 = (K9.new (CObj.cells [.slice qr rs.length cr, .slice (some ⟨K2.nx, 0, none⟩) roots.length (roots.length + 6), .slice (some ⟨l, 0, none⟩) ws.length c'] 22 .ex)) := ⟨_, rfl⟩
    have ho11 : ∀ y, y < K9.nx → K11.ob y = K9.ob y := fun y hy => by rw [hK11, new_get, if_neg (by omega)]
    rw [← hK11]
    have hap : WpF TK 12 [.slice (some ⟨K9.nx, 0, none⟩) 3 3] K11 fun v K => v = .bool true := by
      rcases hqr with ⟨q1, q2, q3⟩ | ⟨x, kr, q1, q2, q3, q4, q5⟩
      · exact apartK_wp (wr := []) (kr := .ex) (by rw [hK11, new_get, if_pos rfl]) (by decide) (.inl ⟨q1, q2, q3⟩) ((ho11 _ (by omega)).trans hin9) ((ho11 _ (by omega)).trans hob9) hro (by omega) (by omega) (by omega) (by omega) (by omega) (by omega)
      · exact apartK_wp (by rw [hK11, new_get, if_pos rfl]) (by decide) (.inr ⟨x, q1, by omega, by omega, by omega, (ho11 _ q3).trans q4, q5⟩) ((ho11 _ (by omega)).trans hin9) ((ho11 _ (by omega)).trans hob9) hro (by omega) (by omega) (by omega) (by omega) (by omega) (by omega)
    refine hap.mono fun v K12 hv => ?_
    subst hv
    repeat' (first | (simp (disch := first | omega | (decide +kernel) | (repeat first | assumption | exact HExt.refl _ | refine HExt.set ?_ (by first | omega | (simp only [new_nx, set_nx]; omega)) _ | refine HExt.new ?_ _)) only [↓RD, RU, accW_t, accW_f, isW, ↓putF_get, ↓putF_none, ↓evF_t, ↓evF_c, ↓evF_f, new_nx, set_nx, new_get, set_get, getD_zero, getD_succ, u_not, pop, lop, aop, wop, resL, resV, tupleV, akV, isVal, isCell, Value.cells, ρ0, ρ1, ρ2, ρ3, ρ4, ↓reduceIte, Nat.reduceEqDiff, Nat.reduceAdd, Int.reduceOfNat, Int.reduceNegSucc, reduceCtorEq, ρ5, ρ6, ρ7, ρ8, srcR_c, src_n, src_v, src_s, bnd, lenV, capV, ρ9, ρ10, ρ11, ρ12, ρ13, ρ14, ρ15, ρ16, ρ17, ρ18, ρ19, ρ20, ρ21, ρ22, ρ23, ρ24, Kd.isRo, ρ25, ρ26, bldV, Nat.reduceLeDiff, Int.reduceMul, Int.reduceAdd, Int.reduceSub, Int.reduceToNat, maxLen_eq, zeros_one, appS_some, appV_n, appV_v, appH_t, appH_f, Kd.isEx, ρ27, partV, CH.set_set, lkV, lkR, isKey, mupV, nxtV, ρ28, ρ29, hrr, f13, hag2, hag]) | (with_reducible first | refine condK_dec (fun _ => ?_) fun _ => ?_ | refine grd_dec (fun _ => ?_) fun _ => ?_ | refine egrd_dec (fun _ => ?_) fun _ => ?_))
  · rw [hrr]
    repeat' (first | (simp (disch := first | omega | (decide +kernel) | (repeat first | assumption | exact HExt.refl _ | refine HExt.set ?_ (by first | omega | (simp only [new_nx, set_nx]; omega)) _ | refine HExt.new ?_ _)) only [↓RD, RU, accW_t, accW_f, isW, ↓putF_get, ↓putF_none, ↓evF_t, ↓evF_c, ↓evF_f, new_nx, set_nx, new_get, set_get, getD_zero, getD_succ, u_not, pop, lop, aop, wop, resL, resV, tupleV, akV, isVal, isCell, Value.cells, ρ0, ρ1, ρ2, ρ3, ρ4, ↓reduceIte, Nat.reduceEqDiff, Nat.reduceAdd, Int.reduceOfNat, Int.reduceNegSucc, reduceCtorEq, ρ5, ρ6, ρ7, ρ8, srcR_c, src_n, src_v, src_s, bnd, lenV, capV, ρ9, ρ10, ρ11, ρ12, ρ13, ρ14, ρ15, ρ16, ρ17, ρ18, ρ19, ρ20, ρ21, ρ22, ρ23, ρ24, Kd.isRo, ρ25, ρ26, bldV, Nat.reduceLeDiff, Int.reduceMul, Int.reduceAdd, Int.reduceSub, Int.reduceToNat, maxLen_eq, zeros_one, appS_some, appV_n, appV_v, appH_t, appH_f, Kd.isEx, ρ27, partV, CH.set_set, lkV, lkR, isKey, mupV, nxtV, ρ28, ρ29, hrr, f13, hag2, hag]) | (with_reducible first | refine condK_dec (fun _ => ?_) fun _ => ?_ | refine grd_dec (fun _ => ?_) fun _ => ?_ | refine egrd_dec (fun _ => ?_) fun _ => ?_))
    refine hkept.mono fun v K10 ⟨hv, hK10⟩ => ?_
    subst hv
    rw [hK10]
    repeat' (first | (simp (disch := first | omega | (decide +kernel) | (repeat first | assumption | exact HExt.refl _ | refine HExt.set ?_ (by first | omega | (simp only [new_nx, set_nx]; omega)) _ | refine HExt.new ?_ _)) only [↓RD, RU, accW_t, accW_f, isW, ↓putF_get, ↓putF_none, ↓evF_t, ↓evF_c, ↓evF_f, new_nx, set_nx, new_get, set_get, getD_zero, getD_succ, u_not, pop, lop, aop, wop, resL, resV, tupleV, akV, isVal, isCell, Value.cells, ρ0, ρ1, ρ2, ρ3, ρ4, ↓reduceIte, Nat.reduceEqDiff, Nat.reduceAdd, Int.reduceOfNat, Int.reduceNegSucc, reduceCtorEq, ρ5, ρ6, ρ7, ρ8, srcR_c, src_n, src_v, src_s, bnd, lenV, capV, ρ9, ρ10, ρ11, ρ12, ρ13, ρ14, ρ15, ρ16, ρ17, ρ18, ρ19, ρ20, ρ21, ρ22, ρ23, ρ24, Kd.isRo, ρ25, ρ26, bldV, Nat.reduceLeDiff, Int.reduceMul, Int.reduceAdd, Int.reduceSub, Int.reduceToNat, maxLen_eq, zeros_one, appS_some, appV_n, appV_v, appH_t, appH_f, Kd.isEx, ρ27, partV, CH.set_set, lkV, lkR, isKey, mupV, nxtV, ρ28, ρ29, hrr, f13, hag2, hag, hm9]) | (with_reducible first | refine condK_dec (fun _ => ?_) fun _ => ?_ | refine grd_dec (fun _ => ?_) fun _ => ?_ | refine egrd_dec (fun _ => ?_) fun _ => ?_))
end Can
end Go.Proofs.Ytopmheekeooodaa
