/- Lex, the document: text. -/
import Derived.Test.YtmglmoehlegojaaLxH
namespace Go.Proofs.Ytmglmoehlegojaa
namespace Can
open Go Go.RowKit
set_option linter.unusedSimpArgs false
set_option linter.unusedVariables false
set_option maxRecDepth 4000
theorem base_iff {K : CH} {t : List UInt8} {j : Nat} (hl : t.length ≤ 100000) {Q : Value → CH → Prop} : WpF (tblG Try.prog LG GG) 40 [.string ⟨⟨t⟩⟩, .int .i64 (j : Nat)] K Q ↔ Q (.int .i64 (basV (hd (t.drop j)))) K := wpF_iff (base_wp K hl)
theorem stands_iff {K : CH} {n : Nat} (hn : n < 256) {Q : Value → CH → Prop} : WpF (tblG Try.prog LG GG) 41 [.int .u8 (n : Nat)] K Q ↔ Q (.int .u8 (stdN n : Nat)) K := wpF_iff (stands_wp K hn)
theorem n3 {a : Nat} : ((a : Int) + 3) = ((a + 3 : Nat) : Int) := rfl
/-- Within a string. -/
def TxJ (A : CH) (q j : Nat) (L : List UInt8) (n : Nat) (v5 v6 : Value) (K1 : CH) : Prop := ∃ (i f : Nat) (acc : List UInt8), n = f + 1 ∧ i + f = L.length ∧ strT q L = (strN q (f + 1) (L.drop i)).map (fun x => (acc ++ x.1, x.2 + i)) ∧ v6 = .int .i64 (j + 1 + i : Nat) ∧ Grw A 5 1 (ints .u8) K1 v5 (u8s acc) ∧ HExt A K1 ∧ acc.length ≤ i
theorem strN_nil {q : Nat} (hq : 32 ≤ q) : ∀ {f : Nat}, strN q f [] = none
  | 0 => rfl
  | f + 1 => by
    unfold strN
    rw [if_neg (show ¬ hd [] = q by simp [hd]; omega), if_pos (show hd [] < 32 by decide)]
set_option maxHeartbeats 2000000 in
theorem text_r {K : CH} {t : List UInt8} {j : Nat} (hj : j < t.length) (hl : t.length ≤ 20000) (hq : 32 ≤ hd (t.drop j) ∧ hd (t.drop j) ≠ 92) :
    WpF (tblG Try.prog LG GG) 30 [.string (str t), .int .i64 (j : Nat)] K fun v K' => HExt K K' ∧ v = .agg (pieC ((strT (hd (t.drop j)) (t.drop (j + 1))).map fun x => (7, x.1, x.2 + 1)) j).toArray := by
  obtain ⟨q, hqe⟩ : ∃ q, hd (t.drop j) = q := ⟨_, rfl⟩
  have gq := get_some hj
  rw [hqe] at hq gq ⊢
  obtain ⟨L, hL⟩ : ∃ L, t.drop (j + 1) = L := ⟨_, rfl⟩
  have hLl : L.length = t.length - (j + 1) := by rw [← hL]; simp
  have hdr : ∀ i, t.drop (j + 1 + i) = L.drop i := fun i => by rw [← hL, List.drop_drop]
  have hgs := fun (i : Nat) (hi : j + 1 + i < t.length) => get_some hi
  simp only [hdr] at hgs
  rw [hL]
  refine wpF_rG (by rfl) (by kernel_rfl) ?_; (conv in (rF _ _).body => reduce); (conv in (rF _ _).res => reduce)
  obtain ⟨A, hA⟩ : ∃ A, K.new (.cells [.int .i64 0, .string ⟨⟨[]⟩⟩, .int .i64 0] 50 .ex) = A := ⟨_, rfl⟩
  have hxA : HExt K A := by rw [← hA]; exact (HExt.refl K).new _
  have hAo : A.ob K.nx = .cells [.int .i64 0, .string ⟨⟨[]⟩⟩, .int .i64 0] 50 .ex := by rw [← hA]; exact new_get.trans (if_pos rfl)
  have hAn : K.nx < A.nx := by rw [← hA]; exact Nat.lt_succ_self _
  refine seq_cut (fun fr K1 => fr 4 = .pointer (some ⟨K.nx, 0, none⟩) ∧ K1 = A) (by repeat' (first | (simp (disch := first | omega | (decide +kernel) | (repeat first | assumption | exact HExt.refl _ | refine HExt.set ?_ (by first | omega | (simp only [new_nx, set_nx]; omega)) _ | refine HExt.new ?_ _)) only [↓RD, RU, accW_t, accW_f, isW, ↓putF_get, ↓putF_none, ↓evF_t, ↓evF_c, ↓evF_f, new_nx, set_nx, new_get, set_get, getD_zero, getD_succ, u_not, pop, lop, aop, wop, resL, resV, tupleV, akV, isVal, isCell, Value.cells, ρ0, ρ1, ρ2, ρ3, ρ4, ↓reduceIte, Nat.reduceEqDiff, Nat.reduceAdd, Int.reduceOfNat, Int.reduceNegSucc, reduceCtorEq, ρ5, ρ6, ρ7, ρ8, srcR_c, src_n, src_v, src_s, bnd, lenV, capV, ρ9, ρ10, ρ11, ρ12, ρ13, ρ14, ρ15, ρ16, ρ17, ρ18, ρ19, ρ20, ρ21, ρ22, ρ23, ρ24, Kd.isRo, ρ25, ρ26, bldV, Nat.reduceLeDiff, Int.reduceMul, Int.reduceAdd, Int.reduceSub, Int.reduceToNat, maxLen_eq, zeros_one, appS_some, appV_n, appV_v, appH_t, appH_f, Kd.isEx, ρ27, partV, CH.set_set, lkV, lkR, isKey, mupV, nxtV, ρ28, ρ29, hA]) | (with_reducible first | refine condK_dec (fun _ => ?_) fun _ => ?_ | refine grd_dec (fun _ => ?_) fun _ => ?_ | refine egrd_dec (fun _ => ?_) fun _ => ?_))) ?_
  rintro fr1 K1 ⟨f4, rfl⟩ hag1
  repeat' (first | (simp (disch := first | omega | (decide +kernel) | (repeat first | assumption | exact HExt.refl _ | refine HExt.set ?_ (by first | omega | (simp only [new_nx, set_nx]; omega)) _ | refine HExt.new ?_ _)) only [↓RD, RU, accW_t, accW_f, isW, ↓putF_get, ↓putF_none, ↓evF_t, ↓evF_c, ↓evF_f, new_nx, set_nx, new_get, set_get, getD_zero, getD_succ, u_not, pop, lop, aop, wop, resL, resV, tupleV, akV, isVal, isCell, Value.cells, ρ0, ρ1, ρ2, ρ3, ρ4, ↓reduceIte, Nat.reduceEqDiff, Nat.reduceAdd, Int.reduceOfNat, Int.reduceNegSucc, reduceCtorEq, ρ5, ρ6, ρ7, ρ8, srcR_c, src_n, src_v, src_s, bnd, lenV, capV, ρ9, ρ10, ρ11, ρ12, ρ13, ρ14, ρ15, ρ16, ρ17, ρ18, ρ19, ρ20, ρ21, ρ22, ρ23, ρ24, Kd.isRo, ρ25, ρ26, bldV, Nat.reduceLeDiff, Int.reduceMul, Int.reduceAdd, Int.reduceSub, Int.reduceToNat, maxLen_eq, zeros_one, appS_some, appV_n, appV_v, appH_t, appH_f, Kd.isEx, ρ27, partV, CH.set_set, lkV, lkR, isKey, mupV, nxtV, ρ28, ρ29, hag1, n1]) | (with_reducible first | refine condK_dec (fun _ => ?_) fun _ => ?_ | refine grd_dec (fun _ => ?_) fun _ => ?_ | refine egrd_dec (fun _ => ?_) fun _ => ?_))
  refine loop_w (fun n fr K2 => TxJ K1 q j L n (fr 5) (fr 6) K2) (n := L.length + 1) ⟨0, L.length, [], rfl, by omega, by simp [strT], by (repeat' (first | (simp (disch := first | omega | (decide +kernel) | (repeat first | assumption | exact HExt.refl _ | refine HExt.set ?_ (by first | omega | (simp only [new_nx, set_nx]; omega)) _ | refine HExt.new ?_ _)) only [↓RD, RU, accW_t, accW_f, isW, ↓putF_get, ↓putF_none, ↓evF_t, ↓evF_c, ↓evF_f, new_nx, set_nx, new_get, set_get, getD_zero, getD_succ, u_not, pop, lop, aop, wop, resL, resV, tupleV, akV, isVal, isCell, Value.cells, ρ0, ρ1, ρ2, ρ3, ρ4, ↓reduceIte, Nat.reduceEqDiff, Nat.reduceAdd, Int.reduceOfNat, Int.reduceNegSucc, reduceCtorEq, ρ5, ρ6, ρ7, ρ8, srcR_c, src_n, src_v, src_s, bnd, lenV, capV, ρ9, ρ10, ρ11, ρ12, ρ13, ρ14, ρ15, ρ16, ρ17, ρ18, ρ19, ρ20, ρ21, ρ22, ρ23, ρ24, Kd.isRo, ρ25, ρ26, bldV, Nat.reduceLeDiff, Int.reduceMul, Int.reduceAdd, Int.reduceSub, Int.reduceToNat, maxLen_eq, zeros_one, appS_some, appV_n, appV_v, appH_t, appH_f, Kd.isEx, ρ27, partV, CH.set_set, lkV, lkR, isKey, mupV, nxtV, ρ28, ρ29]) | (with_reducible first | refine condK_dec (fun _ => ?_) fun _ => ?_ | refine grd_dec (fun _ => ?_) fun _ => ?_ | refine egrd_dec (fun _ => ?_) fun _ => ?_)); all_goals rfl), by (repeat' (first | (simp (disch := first | omega | (decide +kernel) | (repeat first | assumption | exact HExt.refl _ | refine HExt.set ?_ (by first | omega | (simp only [new_nx, set_nx]; omega)) _ | refine HExt.new ?_ _)) only [↓RD, RU, accW_t, accW_f, isW, ↓putF_get, ↓putF_none, ↓evF_t, ↓evF_c, ↓evF_f, new_nx, set_nx, new_get, set_get, getD_zero, getD_succ, u_not, pop, lop, aop, wop, resL, resV, tupleV, akV, isVal, isCell, Value.cells, ρ0, ρ1, ρ2, ρ3, ρ4, ↓reduceIte, Nat.reduceEqDiff, Nat.reduceAdd, Int.reduceOfNat, Int.reduceNegSucc, reduceCtorEq, ρ5, ρ6, ρ7, ρ8, srcR_c, src_n, src_v, src_s, bnd, lenV, capV, ρ9, ρ10, ρ11, ρ12, ρ13, ρ14, ρ15, ρ16, ρ17, ρ18, ρ19, ρ20, ρ21, ρ22, ρ23, ρ24, Kd.isRo, ρ25, ρ26, bldV, Nat.reduceLeDiff, Int.reduceMul, Int.reduceAdd, Int.reduceSub, Int.reduceToNat, maxLen_eq, zeros_one, appS_some, appV_n, appV_v, appH_t, appH_f, Kd.isEx, ρ27, partV, CH.set_set, lkV, lkR, isKey, mupV, nxtV, ρ28, ρ29]) | (with_reducible first | refine condK_dec (fun _ => ?_) fun _ => ?_ | refine grd_dec (fun _ => ?_) fun _ => ?_ | refine egrd_dec (fun _ => ?_) fun _ => ?_)); all_goals exact .inl ⟨rfl, rfl⟩), HExt.refl _, by simp⟩ ?_
  rintro n fr K2 ⟨i, f, acc, rfl, hif, hst, f6, hG, hx2, hac⟩ hag
  obtain ⟨vb, f5⟩ : ∃ vb, fr 5 = vb := ⟨_, rfl⟩
  rw [f5] at hG
  have hob2 := (hx2.ob _ hAn).trans hAo
  have hn2 := hx2.nx
  have hc := @hd_lt (L.drop i)
  by_cases hil : i < L.length
  · have g0 := hgs i (by omega)
    by_cases c1 : hd (L.drop i) = q
    · have hres : strT q L = some (acc, i + 1) := by rw [hst, strN, if_pos c1]; simp; omega
      rw [hres]
      rw [c1] at g0
      rcases hG with ⟨e1, rfl⟩ | ⟨b, kd, rfl, g1, g2, g3, g4⟩
      · have ea : acc = [] := by simpa [u8s] using e1
        subst ea
        repeat' (first | (simp (disch := first | omega | (decide +kernel) | (repeat first | assumption | exact HExt.refl _ | refine HExt.set ?_ (by first | omega | (simp only [new_nx, set_nx]; omega)) _ | refine HExt.new ?_ _)) only [↓RD, RU, accW_t, accW_f, isW, ↓putF_get, ↓putF_none, ↓evF_t, ↓evF_c, ↓evF_f, new_nx, set_nx, new_get, set_get, getD_zero, getD_succ, u_not, pop, lop, aop, wop, resL, resV, tupleV, akV, isVal, isCell, Value.cells, ρ0, ρ1, ρ2, ρ3, ρ4, ↓reduceIte, Nat.reduceEqDiff, Nat.reduceAdd, Int.reduceOfNat, Int.reduceNegSucc, reduceCtorEq, ρ5, ρ6, ρ7, ρ8, srcR_c, src_n, src_v, src_s, bnd, lenV, capV, ρ9, ρ10, ρ11, ρ12, ρ13, ρ14, ρ15, ρ16, ρ17, ρ18, ρ19, ρ20, ρ21, ρ22, ρ23, ρ24, Kd.isRo, ρ25, ρ26, bldV, Nat.reduceLeDiff, Int.reduceMul, Int.reduceAdd, Int.reduceSub, Int.reduceToNat, maxLen_eq, zeros_one, appS_some, appV_n, appV_v, appH_t, appH_f, Kd.isEx, ρ27, partV, CH.set_set, lkV, lkR, isKey, mupV, nxtV, ρ28, ρ29, hag, hag1, f4, f5, f6, g0, gq, str_size, str_get, n1, hob2]) | (with_reducible first | refine condK_dec (fun _ => ?_) fun _ => ?_ | refine grd_dec (fun _ => ?_) fun _ => ?_ | refine egrd_dec (fun _ => ?_) fun _ => ?_))
        all_goals exact ⟨(hxA.trans hx2).set (Nat.le_refl _) _, (congrArg (fun n : Nat => Value.agg #[.int .i64 7, .string (str []), .int .i64 n]) (show j + 1 + i + 1 = j + (i + 1 + 1) by omega))⟩
      · rw [u8s_ints] at g3
        have hul : (u8s acc).length = acc.length := by simp [u8s]
        rw [hul] at f5
        repeat' (first | (simp (disch := first | omega | (decide +kernel) | (repeat first | assumption | exact HExt.refl _ | refine HExt.set ?_ (by first | omega | (simp only [new_nx, set_nx]; omega)) _ | refine HExt.new ?_ _)) only [↓RD, RU, accW_t, accW_f, isW, ↓putF_get, ↓putF_none, ↓evF_t, ↓evF_c, ↓evF_f, new_nx, set_nx, new_get, set_get, getD_zero, getD_succ, u_not, pop, lop, aop, wop, resL, resV, tupleV, akV, isVal, isCell, Value.cells, ρ0, ρ1, ρ2, ρ3, ρ4, ↓reduceIte, Nat.reduceEqDiff, Nat.reduceAdd, Int.reduceOfNat, Int.reduceNegSucc, reduceCtorEq, ρ5, ρ6, ρ7, ρ8, srcR_c, src_n, src_v, src_s, bnd, lenV, capV, ρ9, ρ10, ρ11, ρ12, ρ13, ρ14, ρ15, ρ16, ρ17, ρ18, ρ19, ρ20, ρ21, ρ22, ρ23, ρ24, Kd.isRo, ρ25, ρ26, bldV, Nat.reduceLeDiff, Int.reduceMul, Int.reduceAdd, Int.reduceSub, Int.reduceToNat, maxLen_eq, zeros_one, appS_some, appV_n, appV_v, appH_t, appH_f, Kd.isEx, ρ27, partV, CH.set_set, lkV, lkR, isKey, mupV, nxtV, ρ28, ρ29, hag, hag1, f4, f5, f6, g0, gq, str_size, str_get, n1, hob2, g3, byteList_u8s]) | (with_reducible first | refine condK_dec (fun _ => ?_) fun _ => ?_ | refine grd_dec (fun _ => ?_) fun _ => ?_ | refine egrd_dec (fun _ => ?_) fun _ => ?_))
        all_goals exact ⟨(hxA.trans hx2).set (Nat.le_refl _) _, (congrArg (fun n : Nat => Value.agg #[.int .i64 7, .string (str acc), .int .i64 n]) (show j + 1 + i + 1 = j + (i + 1 + 1) by omega))⟩
    have c1' : ¬ hd (L.drop i) = q := c1
    by_cases c2 : hd (L.drop i) < 32
    · have hres : strT q L = none := by rw [hst, strN, if_neg c1, if_pos c2]; rfl
      rw [hres]
      repeat' (first | (simp (disch := first | omega | (decide +kernel) | (repeat first | assumption | exact HExt.refl _ | refine HExt.set ?_ (by first | omega | (simp only [new_nx, set_nx]; omega)) _ | refine HExt.new ?_ _)) only [↓RD, RU, accW_t, accW_f, isW, ↓putF_get, ↓putF_none, ↓evF_t, ↓evF_c, ↓evF_f, new_nx, set_nx, new_get, set_get, getD_zero, getD_succ, u_not, pop, lop, aop, wop, resL, resV, tupleV, akV, isVal, isCell, Value.cells, ρ0, ρ1, ρ2, ρ3, ρ4, ↓reduceIte, Nat.reduceEqDiff, Nat.reduceAdd, Int.reduceOfNat, Int.reduceNegSucc, reduceCtorEq, ρ5, ρ6, ρ7, ρ8, srcR_c, src_n, src_v, src_s, bnd, lenV, capV, ρ9, ρ10, ρ11, ρ12, ρ13, ρ14, ρ15, ρ16, ρ17, ρ18, ρ19, ρ20, ρ21, ρ22, ρ23, ρ24, Kd.isRo, ρ25, ρ26, bldV, Nat.reduceLeDiff, Int.reduceMul, Int.reduceAdd, Int.reduceSub, Int.reduceToNat, maxLen_eq, zeros_one, appS_some, appV_n, appV_v, appH_t, appH_f, Kd.isEx, ρ27, partV, CH.set_set, lkV, lkR, isKey, mupV, nxtV, ρ28, ρ29, hag, hag1, f4, f5, f6, g0, gq, str_size, str_get, n1, hob2]) | (with_reducible first | refine condK_dec (fun _ => ?_) fun _ => ?_ | refine grd_dec (fun _ => ?_) fun _ => ?_ | refine egrd_dec (fun _ => ?_) fun _ => ?_))
      all_goals exact ⟨(hxA.trans hx2).set (Nat.le_refl _) _, rfl⟩
    obtain ⟨f', rfl⟩ : ∃ f', f = f' + 1 := ⟨f - 1, by omega⟩
    by_cases c3 : hd (L.drop i) = 92
    · rw [c3] at g0
      have hkey : ∀ b n, escN (L.drop (i + 1)) = some (b, n) → ∃ f2, f' = f2 + n ∧ b < 256 ∧ strT q L = (strN q (f2 + 1) (L.drop (i + 1 + n))).map (fun x => ((acc ++ [UInt8.ofNat b]) ++ x.1, x.2 + (i + 1 + n))) := fun b n hes => by
        obtain ⟨hnl, hb256⟩ := esc_le hes
        simp only [List.length_drop] at hnl
        obtain ⟨f2, rfl⟩ : ∃ f2, f' = f2 + n := ⟨f' - n, by omega⟩
        refine ⟨f2, rfl, hb256, ?_⟩
        rw [hst, strN, if_neg c1, if_neg c2, if_neg (by simpa using c3), List.drop_drop, hes]
        simp only [List.drop_drop]
        rw [strN_fuel (f := f2 + n + 1) (g := f2 + 1) (by simp; omega) (by simp; omega), show i + (1 + n) = i + 1 + n by omega]
        cases strN q (f2 + 1) (L.drop (i + 1 + n)) with
        | none => rfl
        | some x => simp; omega
      have hnone : escN (L.drop (i + 1)) = none → strT q L = none := fun hes => by
        rw [hst, strN, if_neg c1, if_neg c2, if_neg (by simpa using c3), List.drop_drop, hes]; rfl
      by_cases hi1 : i + 1 < L.length
      · have g1 := hgs (i + 1) (by omega)
        simp only [← Nat.add_assoc] at g1
        by_cases c4 : hd (L.drop (i + 1)) = 120
        · rw [c4] at g1
          have hb1 : hd (t.drop (j + 1 + i + 2)) = hd (L.drop (i + 2)) := by rw [Nat.add_assoc, hdr]
          have hb2 : hd (t.drop (j + 1 + i + 3)) = hd (L.drop (i + 3)) := by rw [Nat.add_assoc, hdr]
          have hes0 : escN (L.drop (i + 1)) = if hexN (hd (L.drop (i + 2))) < 16 ∧ hexN (hd (L.drop (i + 3))) < 16 then some (16 * hexN (hd (L.drop (i + 2))) + hexN (hd (L.drop (i + 3))), 3) else none := by
            unfold escN
            rw [if_pos c4]; simp only [List.drop_drop]
          have hx1 := @hexN_16 (hd (L.drop (i + 2)))
          have hx2' := @hexN_16 (hd (L.drop (i + 3)))
          obtain ⟨x1, hx1e⟩ : ∃ x, hexN (hd (L.drop (i + 2))) = x := ⟨_, rfl⟩
          obtain ⟨x2, hx2e⟩ : ∃ x, hexN (hd (L.drop (i + 3))) = x := ⟨_, rfl⟩
          rw [hx1e] at hx1
          rw [hx2e] at hx2'
          rw [hx1e, hx2e] at hes0
          have bi := fun (m : Nat) (K : CH) (Q : Value → CH → Prop) => @base_iff K t m (by omega) Q
          by_cases d1 : x1 < 16
          · have b1 : basV (hd (L.drop (i + 2))) = (x1 : Int) := by unfold basV; rw [hx1e, if_neg (by omega)]
            by_cases d2 : x2 < 16
            · have b2 : basV (hd (L.drop (i + 3))) = (x2 : Int) := by unfold basV; rw [hx2e, if_neg (by omega)]
              have hes : escN (L.drop (i + 1)) = some (16 * x1 + x2, 3) := by rw [hes0, if_pos ⟨d1, d2⟩]
              repeat' (first | (simp (disch := first | omega | (decide +kernel) | (repeat first | assumption | exact HExt.refl _ | refine HExt.set ?_ (by first | omega | (simp only [new_nx, set_nx]; omega)) _ | refine HExt.new ?_ _)) only [↓RD, RU, accW_t, accW_f, isW, ↓putF_get, ↓putF_none, ↓evF_t, ↓evF_c, ↓evF_f, new_nx, set_nx, new_get, set_get, getD_zero, getD_succ, u_not, pop, lop, aop, wop, resL, resV, tupleV, akV, isVal, isCell, Value.cells, ρ0, ρ1, ρ2, ρ3, ρ4, ↓reduceIte, Nat.reduceEqDiff, Nat.reduceAdd, Int.reduceOfNat, Int.reduceNegSucc, reduceCtorEq, ρ5, ρ6, ρ7, ρ8, srcR_c, src_n, src_v, src_s, bnd, lenV, capV, ρ9, ρ10, ρ11, ρ12, ρ13, ρ14, ρ15, ρ16, ρ17, ρ18, ρ19, ρ20, ρ21, ρ22, ρ23, ρ24, Kd.isRo, ρ25, ρ26, bldV, Nat.reduceLeDiff, Int.reduceMul, Int.reduceAdd, Int.reduceSub, Int.reduceToNat, maxLen_eq, zeros_one, appS_some, appV_n, appV_v, appH_t, appH_f, Kd.isEx, ρ27, partV, CH.set_set, lkV, lkR, isKey, mupV, nxtV, ρ28, ρ29, hag, hag1, f4, f5, f6, g0, gq, str_size, str_get, n1, n2, n3, hob2, g1, bi, hb1, hb2, b1, b2]) | (with_reducible first | refine condK_dec (fun _ => ?_) fun _ => ?_ | refine grd_dec (fun _ => ?_) fun _ => ?_ | refine egrd_dec (fun _ => ?_) fun _ => ?_))
              obtain ⟨f2, rfl, hb256, hst2⟩ := hkey _ _ hes
              refine optW_app (ints_ok .u8) (ys := [16 * (x1 : Int) + (x2 : Int)]) (hG.ext (by (repeat (first | assumption | exact HExt.refl _ | (refine HExt.set ?_ (by first | omega | (simp only [new_nx, set_nx]; omega)) _) | (refine HExt.new ?_ _))))) (hx2.trans (by (repeat (first | assumption | exact HExt.refl _ | (refine HExt.set ?_ (by first | omega | (simp only [new_nx, set_nx]; omega)) _) | (refine HExt.new ?_ _))))) (by simp [u8s]; omega) (by simp [u8s]; omega) rfl rfl fun v' K4 j1 j2 j3 j4 => ?_
              have hu : u8s acc ++ [(16 * (x1 : Int) + (x2 : Int) : Int)] = u8s (acc ++ [UInt8.ofNat (16 * x1 + x2)]) := by simp [u8s]; omega
              rw [hu] at j1
              repeat' (first | (simp (disch := first | omega | (decide +kernel) | (repeat first | assumption | exact HExt.refl _ | refine HExt.set ?_ (by first | omega | (simp only [new_nx, set_nx]; omega)) _ | refine HExt.new ?_ _)) only [↓RD, RU, accW_t, accW_f, isW, ↓putF_get, ↓putF_none, ↓evF_t, ↓evF_c, ↓evF_f, new_nx, set_nx, new_get, set_get, getD_zero, getD_succ, u_not, pop, lop, aop, wop, resL, resV, tupleV, akV, isVal, isCell, Value.cells, ρ0, ρ1, ρ2, ρ3, ρ4, ↓reduceIte, Nat.reduceEqDiff, Nat.reduceAdd, Int.reduceOfNat, Int.reduceNegSucc, reduceCtorEq, ρ5, ρ6, ρ7, ρ8, srcR_c, src_n, src_v, src_s, bnd, lenV, capV, ρ9, ρ10, ρ11, ρ12, ρ13, ρ14, ρ15, ρ16, ρ17, ρ18, ρ19, ρ20, ρ21, ρ22, ρ23, ρ24, Kd.isRo, ρ25, ρ26, bldV, Nat.reduceLeDiff, Int.reduceMul, Int.reduceAdd, Int.reduceSub, Int.reduceToNat, maxLen_eq, zeros_one, appS_some, appV_n, appV_v, appH_t, appH_f, Kd.isEx, ρ27, partV, CH.set_set, lkV, lkR, isKey, mupV, nxtV, ρ28, ρ29, f6]) | (with_reducible first | refine condK_dec (fun _ => ?_) fun _ => ?_ | refine grd_dec (fun _ => ?_) fun _ => ?_ | refine egrd_dec (fun _ => ?_) fun _ => ?_))
              all_goals exact ⟨_, by omega, i + 1 + 3, f2, _, rfl, by omega, hst2, congrArg (Value.int .i64) (by omega), j1, j2, by simp; omega⟩
            · have b2 : basV (hd (L.drop (i + 3))) = -1 := by unfold basV; rw [hx2e, if_pos (by omega)]
              rw [hnone (by rw [hes0, if_neg (fun g => d2 g.2)])]
              repeat' (first | (simp (disch := first | omega | (decide +kernel) | (repeat first | assumption | exact HExt.refl _ | refine HExt.set ?_ (by first | omega | (simp only [new_nx, set_nx]; omega)) _ | refine HExt.new ?_ _)) only [↓RD, RU, accW_t, accW_f, isW, ↓putF_get, ↓putF_none, ↓evF_t, ↓evF_c, ↓evF_f, new_nx, set_nx, new_get, set_get, getD_zero, getD_succ, u_not, pop, lop, aop, wop, resL, resV, tupleV, akV, isVal, isCell, Value.cells, ρ0, ρ1, ρ2, ρ3, ρ4, ↓reduceIte, Nat.reduceEqDiff, Nat.reduceAdd, Int.reduceOfNat, Int.reduceNegSucc, reduceCtorEq, ρ5, ρ6, ρ7, ρ8, srcR_c, src_n, src_v, src_s, bnd, lenV, capV, ρ9, ρ10, ρ11, ρ12, ρ13, ρ14, ρ15, ρ16, ρ17, ρ18, ρ19, ρ20, ρ21, ρ22, ρ23, ρ24, Kd.isRo, ρ25, ρ26, bldV, Nat.reduceLeDiff, Int.reduceMul, Int.reduceAdd, Int.reduceSub, Int.reduceToNat, maxLen_eq, zeros_one, appS_some, appV_n, appV_v, appH_t, appH_f, Kd.isEx, ρ27, partV, CH.set_set, lkV, lkR, isKey, mupV, nxtV, ρ28, ρ29, hag, hag1, f4, f5, f6, g0, gq, str_size, str_get, n1, n2, n3, hob2, g1, bi, hb1, hb2, b1, b2]) | (with_reducible first | refine condK_dec (fun _ => ?_) fun _ => ?_ | refine grd_dec (fun _ => ?_) fun _ => ?_ | refine egrd_dec (fun _ => ?_) fun _ => ?_))
              all_goals exact ⟨(hxA.trans hx2).set (Nat.le_refl _) _, rfl⟩
          · have b1 : basV (hd (L.drop (i + 2))) = -1 := by unfold basV; rw [hx1e, if_pos (by omega)]
            rw [hnone (by rw [hes0, if_neg (fun g => d1 g.1)])]
            repeat' (first | (simp (disch := first | omega | (decide +kernel) | (repeat first | assumption | exact HExt.refl _ | refine HExt.set ?_ (by first | omega | (simp only [new_nx, set_nx]; omega)) _ | refine HExt.new ?_ _)) only [↓RD, RU, accW_t, accW_f, isW, ↓putF_get, ↓putF_none, ↓evF_t, ↓evF_c, ↓evF_f, new_nx, set_nx, new_get, set_get, getD_zero, getD_succ, u_not, pop, lop, aop, wop, resL, resV, tupleV, akV, isVal, isCell, Value.cells, ρ0, ρ1, ρ2, ρ3, ρ4, ↓reduceIte, Nat.reduceEqDiff, Nat.reduceAdd, Int.reduceOfNat, Int.reduceNegSucc, reduceCtorEq, ρ5, ρ6, ρ7, ρ8, srcR_c, src_n, src_v, src_s, bnd, lenV, capV, ρ9, ρ10, ρ11, ρ12, ρ13, ρ14, ρ15, ρ16, ρ17, ρ18, ρ19, ρ20, ρ21, ρ22, ρ23, ρ24, Kd.isRo, ρ25, ρ26, bldV, Nat.reduceLeDiff, Int.reduceMul, Int.reduceAdd, Int.reduceSub, Int.reduceToNat, maxLen_eq, zeros_one, appS_some, appV_n, appV_v, appH_t, appH_f, Kd.isEx, ρ27, partV, CH.set_set, lkV, lkR, isKey, mupV, nxtV, ρ28, ρ29, hag, hag1, f4, f5, f6, g0, gq, str_size, str_get, n1, n2, n3, hob2, g1, bi, hb1, hb2, b1]) | (with_reducible first | refine condK_dec (fun _ => ?_) fun _ => ?_ | refine grd_dec (fun _ => ?_) fun _ => ?_ | refine egrd_dec (fun _ => ?_) fun _ => ?_))
            all_goals exact ⟨(hxA.trans hx2).set (Nat.le_refl _) _, rfl⟩
        · have hs0 : escN (L.drop (i + 1)) = if stdN (hd (L.drop (i + 1))) ≠ 0 then some (stdN (hd (L.drop (i + 1))), 1) else none := by
            unfold escN
            rw [if_neg c4]
          have hsi := fun (K : CH) (Q : Value → CH → Prop) => @stands_iff K (hd (L.drop (i + 1))) hd_lt Q
          obtain ⟨sd, hsd⟩ : ∃ x, stdN (hd (L.drop (i + 1))) = x := ⟨_, rfl⟩
          rw [hsd] at hs0
          simp only [hsd] at hsi
          by_cases d1 : sd = 0
          · rw [hnone (by rw [hs0, if_neg (fun g => g d1)])]
            subst d1
            repeat' (first | (simp (disch := first | omega | (decide +kernel) | (repeat first | assumption | exact HExt.refl _ | refine HExt.set ?_ (by first | omega | (simp only [new_nx, set_nx]; omega)) _ | refine HExt.new ?_ _)) only [↓RD, RU, accW_t, accW_f, isW, ↓putF_get, ↓putF_none, ↓evF_t, ↓evF_c, ↓evF_f, new_nx, set_nx, new_get, set_get, getD_zero, getD_succ, u_not, pop, lop, aop, wop, resL, resV, tupleV, akV, isVal, isCell, Value.cells, ρ0, ρ1, ρ2, ρ3, ρ4, ↓reduceIte, Nat.reduceEqDiff, Nat.reduceAdd, Int.reduceOfNat, Int.reduceNegSucc, reduceCtorEq, ρ5, ρ6, ρ7, ρ8, srcR_c, src_n, src_v, src_s, bnd, lenV, capV, ρ9, ρ10, ρ11, ρ12, ρ13, ρ14, ρ15, ρ16, ρ17, ρ18, ρ19, ρ20, ρ21, ρ22, ρ23, ρ24, Kd.isRo, ρ25, ρ26, bldV, Nat.reduceLeDiff, Int.reduceMul, Int.reduceAdd, Int.reduceSub, Int.reduceToNat, maxLen_eq, zeros_one, appS_some, appV_n, appV_v, appH_t, appH_f, Kd.isEx, ρ27, partV, CH.set_set, lkV, lkR, isKey, mupV, nxtV, ρ28, ρ29, hag, hag1, f4, f5, f6, g0, gq, str_size, str_get, n1, n2, n3, hob2, g1, c4, hsi]) | (with_reducible first | refine condK_dec (fun _ => ?_) fun _ => ?_ | refine grd_dec (fun _ => ?_) fun _ => ?_ | refine egrd_dec (fun _ => ?_) fun _ => ?_))
            all_goals exact ⟨(hxA.trans hx2).set (Nat.le_refl _) _, rfl⟩
          · have hes : escN (L.drop (i + 1)) = some (sd, 1) := by rw [hs0, if_pos d1]
            repeat' (first | (simp (disch := first | omega | (decide +kernel) | (repeat first | assumption | exact HExt.refl _ | refine HExt.set ?_ (by first | omega | (simp only [new_nx, set_nx]; omega)) _ | refine HExt.new ?_ _)) only [↓RD, RU, accW_t, accW_f, isW, ↓putF_get, ↓putF_none, ↓evF_t, ↓evF_c, ↓evF_f, new_nx, set_nx, new_get, set_get, getD_zero, getD_succ, u_not, pop, lop, aop, wop, resL, resV, tupleV, akV, isVal, isCell, Value.cells, ρ0, ρ1, ρ2, ρ3, ρ4, ↓reduceIte, Nat.reduceEqDiff, Nat.reduceAdd, Int.reduceOfNat, Int.reduceNegSucc, reduceCtorEq, ρ5, ρ6, ρ7, ρ8, srcR_c, src_n, src_v, src_s, bnd, lenV, capV, ρ9, ρ10, ρ11, ρ12, ρ13, ρ14, ρ15, ρ16, ρ17, ρ18, ρ19, ρ20, ρ21, ρ22, ρ23, ρ24, Kd.isRo, ρ25, ρ26, bldV, Nat.reduceLeDiff, Int.reduceMul, Int.reduceAdd, Int.reduceSub, Int.reduceToNat, maxLen_eq, zeros_one, appS_some, appV_n, appV_v, appH_t, appH_f, Kd.isEx, ρ27, partV, CH.set_set, lkV, lkR, isKey, mupV, nxtV, ρ28, ρ29, hag, hag1, f4, f5, f6, g0, gq, str_size, str_get, n1, n2, n3, hob2, g1, c4, hsi, d1]) | (with_reducible first | refine condK_dec (fun _ => ?_) fun _ => ?_ | refine grd_dec (fun _ => ?_) fun _ => ?_ | refine egrd_dec (fun _ => ?_) fun _ => ?_))
            obtain ⟨f2, rfl, hb256, hst2⟩ := hkey _ _ hes
            refine optW_app (ints_ok .u8) (ys := [(sd : Int)]) (hG.ext (by (repeat (first | assumption | exact HExt.refl _ | (refine HExt.set ?_ (by first | omega | (simp only [new_nx, set_nx]; omega)) _) | (refine HExt.new ?_ _))))) (hx2.trans (by (repeat (first | assumption | exact HExt.refl _ | (refine HExt.set ?_ (by first | omega | (simp only [new_nx, set_nx]; omega)) _) | (refine HExt.new ?_ _))))) (by simp [u8s]; omega) (by simp [u8s]; omega) rfl rfl fun v' K4 j1 j2 j3 j4 => ?_
            have hu : u8s acc ++ [((sd : Int) : Int)] = u8s (acc ++ [UInt8.ofNat (sd)]) := by simp [u8s]; omega
            rw [hu] at j1
            repeat' (first | (simp (disch := first | omega | (decide +kernel) | (repeat first | assumption | exact HExt.refl _ | refine HExt.set ?_ (by first | omega | (simp only [new_nx, set_nx]; omega)) _ | refine HExt.new ?_ _)) only [↓RD, RU, accW_t, accW_f, isW, ↓putF_get, ↓putF_none, ↓evF_t, ↓evF_c, ↓evF_f, new_nx, set_nx, new_get, set_get, getD_zero, getD_succ, u_not, pop, lop, aop, wop, resL, resV, tupleV, akV, isVal, isCell, Value.cells, ρ0, ρ1, ρ2, ρ3, ρ4, ↓reduceIte, Nat.reduceEqDiff, Nat.reduceAdd, Int.reduceOfNat, Int.reduceNegSucc, reduceCtorEq, ρ5, ρ6, ρ7, ρ8, srcR_c, src_n, src_v, src_s, bnd, lenV, capV, ρ9, ρ10, ρ11, ρ12, ρ13, ρ14, ρ15, ρ16, ρ17, ρ18, ρ19, ρ20, ρ21, ρ22, ρ23, ρ24, Kd.isRo, ρ25, ρ26, bldV, Nat.reduceLeDiff, Int.reduceMul, Int.reduceAdd, Int.reduceSub, Int.reduceToNat, maxLen_eq, zeros_one, appS_some, appV_n, appV_v, appH_t, appH_f, Kd.isEx, ρ27, partV, CH.set_set, lkV, lkR, isKey, mupV, nxtV, ρ28, ρ29, f6]) | (with_reducible first | refine condK_dec (fun _ => ?_) fun _ => ?_ | refine grd_dec (fun _ => ?_) fun _ => ?_ | refine egrd_dec (fun _ => ?_) fun _ => ?_))
            all_goals exact ⟨_, by omega, i + 1 + 1, f2, _, rfl, by omega, hst2, congrArg (Value.int .i64) (by omega), j1, j2, by simp; omega⟩
      · have hes : escN (L.drop (i + 1)) = none := by rw [List.drop_eq_nil_of_le (by omega)]; rfl
        rw [hnone hes]
        repeat' (first | (simp (disch := first | omega | (decide +kernel) | (repeat first | assumption | exact HExt.refl _ | refine HExt.set ?_ (by first | omega | (simp only [new_nx, set_nx]; omega)) _ | refine HExt.new ?_ _)) only [↓RD, RU, accW_t, accW_f, isW, ↓putF_get, ↓putF_none, ↓evF_t, ↓evF_c, ↓evF_f, new_nx, set_nx, new_get, set_get, getD_zero, getD_succ, u_not, pop, lop, aop, wop, resL, resV, tupleV, akV, isVal, isCell, Value.cells, ρ0, ρ1, ρ2, ρ3, ρ4, ↓reduceIte, Nat.reduceEqDiff, Nat.reduceAdd, Int.reduceOfNat, Int.reduceNegSucc, reduceCtorEq, ρ5, ρ6, ρ7, ρ8, srcR_c, src_n, src_v, src_s, bnd, lenV, capV, ρ9, ρ10, ρ11, ρ12, ρ13, ρ14, ρ15, ρ16, ρ17, ρ18, ρ19, ρ20, ρ21, ρ22, ρ23, ρ24, Kd.isRo, ρ25, ρ26, bldV, Nat.reduceLeDiff, Int.reduceMul, Int.reduceAdd, Int.reduceSub, Int.reduceToNat, maxLen_eq, zeros_one, appS_some, appV_n, appV_v, appH_t, appH_f, Kd.isEx, ρ27, partV, CH.set_set, lkV, lkR, isKey, mupV, nxtV, ρ28, ρ29, hag, hag1, f4, f5, f6, g0, gq, str_size, str_get, n1, n2, n3, hob2]) | (with_reducible first | refine condK_dec (fun _ => ?_) fun _ => ?_ | refine grd_dec (fun _ => ?_) fun _ => ?_ | refine egrd_dec (fun _ => ?_) fun _ => ?_))
        all_goals exact ⟨(hxA.trans hx2).set (Nat.le_refl _) _, rfl⟩
    · have hst2 : strT q L = (strN q (f' + 1) (L.drop (i + 1))).map (fun x => ((acc ++ [UInt8.ofNat (hd (L.drop i))]) ++ x.1, x.2 + (i + 1))) := by
        rw [hst, strN, if_neg c1, if_neg c2, if_pos c3, List.drop_drop]
        cases strN q (f' + 1) (L.drop (i + 1)) with
        | none => rfl
        | some x => simp; omega
      repeat' (first | (simp (disch := first | omega | (decide +kernel) | (repeat first | assumption | exact HExt.refl _ | refine HExt.set ?_ (by first | omega | (simp only [new_nx, set_nx]; omega)) _ | refine HExt.new ?_ _)) only [↓RD, RU, accW_t, accW_f, isW, ↓putF_get, ↓putF_none, ↓evF_t, ↓evF_c, ↓evF_f, new_nx, set_nx, new_get, set_get, getD_zero, getD_succ, u_not, pop, lop, aop, wop, resL, resV, tupleV, akV, isVal, isCell, Value.cells, ρ0, ρ1, ρ2, ρ3, ρ4, ↓reduceIte, Nat.reduceEqDiff, Nat.reduceAdd, Int.reduceOfNat, Int.reduceNegSucc, reduceCtorEq, ρ5, ρ6, ρ7, ρ8, srcR_c, src_n, src_v, src_s, bnd, lenV, capV, ρ9, ρ10, ρ11, ρ12, ρ13, ρ14, ρ15, ρ16, ρ17, ρ18, ρ19, ρ20, ρ21, ρ22, ρ23, ρ24, Kd.isRo, ρ25, ρ26, bldV, Nat.reduceLeDiff, Int.reduceMul, Int.reduceAdd, Int.reduceSub, Int.reduceToNat, maxLen_eq, zeros_one, appS_some, appV_n, appV_v, appH_t, appH_f, Kd.isEx, ρ27, partV, CH.set_set, lkV, lkR, isKey, mupV, nxtV, ρ28, ρ29, hag, hag1, f4, f5, f6, g0, gq, str_size, str_get, n1, hob2]) | (with_reducible first | refine condK_dec (fun _ => ?_) fun _ => ?_ | refine grd_dec (fun _ => ?_) fun _ => ?_ | refine egrd_dec (fun _ => ?_) fun _ => ?_))
      refine optW_app (ints_ok .u8) (ys := [(hd (L.drop i) : Int)]) (hG.ext (by (repeat (first | assumption | exact HExt.refl _ | (refine HExt.set ?_ (by first | omega | (simp only [new_nx, set_nx]; omega)) _) | (refine HExt.new ?_ _))))) (hx2.trans (by (repeat (first | assumption | exact HExt.refl _ | (refine HExt.set ?_ (by first | omega | (simp only [new_nx, set_nx]; omega)) _) | (refine HExt.new ?_ _))))) (by simp [u8s]; omega) (by simp [u8s]; omega) rfl rfl fun v' K4 j1 j2 j3 j4 => ?_
      have hu : u8s acc ++ [(hd (L.drop i) : Int)] = u8s (acc ++ [UInt8.ofNat (hd (L.drop i))]) := by simp [u8s]; omega
      rw [hu] at j1
      repeat' (first | (simp (disch := first | omega | (decide +kernel) | (repeat first | assumption | exact HExt.refl _ | refine HExt.set ?_ (by first | omega | (simp only [new_nx, set_nx]; omega)) _ | refine HExt.new ?_ _)) only [↓RD, RU, accW_t, accW_f, isW, ↓putF_get, ↓putF_none, ↓evF_t, ↓evF_c, ↓evF_f, new_nx, set_nx, new_get, set_get, getD_zero, getD_succ, u_not, pop, lop, aop, wop, resL, resV, tupleV, akV, isVal, isCell, Value.cells, ρ0, ρ1, ρ2, ρ3, ρ4, ↓reduceIte, Nat.reduceEqDiff, Nat.reduceAdd, Int.reduceOfNat, Int.reduceNegSucc, reduceCtorEq, ρ5, ρ6, ρ7, ρ8, srcR_c, src_n, src_v, src_s, bnd, lenV, capV, ρ9, ρ10, ρ11, ρ12, ρ13, ρ14, ρ15, ρ16, ρ17, ρ18, ρ19, ρ20, ρ21, ρ22, ρ23, ρ24, Kd.isRo, ρ25, ρ26, bldV, Nat.reduceLeDiff, Int.reduceMul, Int.reduceAdd, Int.reduceSub, Int.reduceToNat, maxLen_eq, zeros_one, appS_some, appV_n, appV_v, appH_t, appH_f, Kd.isEx, ρ27, partV, CH.set_set, lkV, lkR, isKey, mupV, nxtV, ρ28, ρ29, f6]) | (with_reducible first | refine condK_dec (fun _ => ?_) fun _ => ?_ | refine grd_dec (fun _ => ?_) fun _ => ?_ | refine egrd_dec (fun _ => ?_) fun _ => ?_))
      all_goals exact ⟨_, by omega, i + 1, f', _, rfl, by omega, hst2, congrArg (Value.int .i64) (by omega), j1, j2, by simp; omega⟩
  · have hres : strT q L = none := by rw [hst, List.drop_eq_nil_of_le (by omega), strN_nil hq.1]; rfl
    rw [hres]
    repeat' (first | (simp (disch := first | omega | (decide +kernel) | (repeat first | assumption | exact HExt.refl _ | refine HExt.set ?_ (by first | omega | (simp only [new_nx, set_nx]; omega)) _ | refine HExt.new ?_ _)) only [↓RD, RU, accW_t, accW_f, isW, ↓putF_get, ↓putF_none, ↓evF_t, ↓evF_c, ↓evF_f, new_nx, set_nx, new_get, set_get, getD_zero, getD_succ, u_not, pop, lop, aop, wop, resL, resV, tupleV, akV, isVal, isCell, Value.cells, ρ0, ρ1, ρ2, ρ3, ρ4, ↓reduceIte, Nat.reduceEqDiff, Nat.reduceAdd, Int.reduceOfNat, Int.reduceNegSucc, reduceCtorEq, ρ5, ρ6, ρ7, ρ8, srcR_c, src_n, src_v, src_s, bnd, lenV, capV, ρ9, ρ10, ρ11, ρ12, ρ13, ρ14, ρ15, ρ16, ρ17, ρ18, ρ19, ρ20, ρ21, ρ22, ρ23, ρ24, Kd.isRo, ρ25, ρ26, bldV, Nat.reduceLeDiff, Int.reduceMul, Int.reduceAdd, Int.reduceSub, Int.reduceToNat, maxLen_eq, zeros_one, appS_some, appV_n, appV_v, appH_t, appH_f, Kd.isEx, ρ27, partV, CH.set_set, lkV, lkR, isKey, mupV, nxtV, ρ28, ρ29, hag, hag1, f4, f5, f6, str_size, str_get, n1, hob2]) | (with_reducible first | refine condK_dec (fun _ => ?_) fun _ => ?_ | refine grd_dec (fun _ => ?_) fun _ => ?_ | refine egrd_dec (fun _ => ?_) fun _ => ?_))
    all_goals exact ⟨(hxA.trans hx2).set (Nat.le_refl _) _, rfl⟩
end Can
end Go.Proofs.Ytmglmoehlegojaa
