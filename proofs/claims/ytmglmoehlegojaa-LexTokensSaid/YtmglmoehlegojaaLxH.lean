/- Lex, the document: number. -/
import Derived.Test.YtmglmoehlegojaaLxG
import Derived.Test.YtmglmoehlegojaaLxN
namespace Go.Proofs.Ytmglmoehlegojaa
namespace Can
open Go Go.RowKit
set_option linter.unusedSimpArgs false
set_option linter.unusedVariables false
set_option maxRecDepth 4000
theorem seq_cut {T : Tbl} {a b : RCode} {fr : Fr} {H : CH} {Q : CExit → Fr → CH → Prop} (I : Fr → CH → Prop) (h : WpR T a fr H fun x fr' H' => x = .normal ∧ I fr' H') (hb : ∀ fr' H', I fr' H' → (∀ t, nw a t = true → fr' t = fr t) → WpR T b fr' H' Q) : WpR T (.seq a b) fr H Q := by
  refine r_seq.2 ?_
  refine (wpR_keep h).mono fun x fr' H' ⟨⟨hx, hi⟩, hk⟩ => ?_
  subst hx
  exact hb fr' H' hi hk
/-- What a piece is. -/
def pieC (r : Option (Nat × List UInt8 × Nat)) (j : Nat) : List Value := match r with
  | some (k, x, n) => [.int .i64 k, .string (str x), .int .i64 (j + n : Nat)]
  | none => [.int .i64 (-1), .string ⟨⟨[]⟩⟩, .int .i64 0]
theorem get_some {t : List UInt8} {i : Nat} (h : i < t.length) : (t[i]?).map (fun b => Value.int .u8 (b.toNat : Int)) = some (.int .u8 (hd (t.drop i) : Nat)) := by
  rw [List.getElem?_eq_getElem h, hd_drop h]; rfl
theorem hd_out {t : List UInt8} {i : Nat} (h : ¬ i < t.length) : hd (t.drop i) = 0 := by
  rw [List.drop_eq_nil_of_le (by omega)]; rfl
set_option maxHeartbeats 2000000 in
theorem number_r {K : CH} {t : List UInt8} {j : Nat} (hj : j < t.length) (hl : t.length ≤ 20000) (hdg : isDigN (hd (t.drop j)) = true) :
    WpF (tblG Try.prog LG GG) 29 [.string (str t), .int .i64 (j : Nat)] K fun v K' => HExt K K' ∧ v = .agg (pieC (if numBad (t.drop j) = true then none else some (numK (t.drop j), (t.drop j).take (numN (t.drop j)), numN (t.drop j))) j).toArray := by
  obtain ⟨l, hl'⟩ : ∃ l, t.drop j = l := ⟨_, rfl⟩
  have hll : l.length = t.length - j := by rw [← hl']; simp
  have hdr : ∀ i, t.drop (j + i) = l.drop i := fun i => by rw [← hl', List.drop_drop]
  rw [hl'] at hdg ⊢
  refine wpF_rG (by rfl) (by kernel_rfl) ?_; (conv in (rF _ _).body => reduce); (conv in (rF _ _).res => reduce)
  refine seq_cut (fun fr K1 => fr 4 = .pointer (some ⟨K.nx, 0, none⟩) ∧ K1 = K.new (.cells [.int .i64 0, .string ⟨⟨[]⟩⟩, .int .i64 0] 50 .ex)) (by repeat' (first | (simp (disch := first | omega | (decide +kernel) | (repeat first | assumption | exact HExt.refl _ | refine HExt.set ?_ (by first | omega | (simp only [new_nx, set_nx]; omega)) _ | refine HExt.new ?_ _)) only [↓RD, RU, accW_t, accW_f, isW, ↓putF_get, ↓putF_none, ↓evF_t, ↓evF_c, ↓evF_f, new_nx, set_nx, new_get, set_get, getD_zero, getD_succ, u_not, pop, lop, aop, wop, resL, resV, tupleV, akV, isVal, isCell, Value.cells, ρ0, ρ1, ρ2, ρ3, ρ4, ↓reduceIte, Nat.reduceEqDiff, Nat.reduceAdd, Int.reduceOfNat, Int.reduceNegSucc, reduceCtorEq, ρ5, ρ6, ρ7, ρ8, srcR_c, src_n, src_v, src_s, bnd, lenV, capV, ρ9, ρ10, ρ11, ρ12, ρ13, ρ14, ρ15, ρ16, ρ17, ρ18, ρ19, ρ20, ρ21, ρ22, ρ23, ρ24, Kd.isRo, ρ25, ρ26, bldV, Nat.reduceLeDiff, Int.reduceMul, Int.reduceAdd, Int.reduceSub, Int.reduceToNat, maxLen_eq, zeros_one, appS_some, appV_n, appV_v, appH_t, appH_f, Kd.isEx, ρ27, partV, CH.set_set, lkV, lkR, isKey, mupV, nxtV, ρ28, ρ29]) | (with_reducible first | refine condK_dec (fun _ => ?_) fun _ => ?_ | refine grd_dec (fun _ => ?_) fun _ => ?_ | refine egrd_dec (fun _ => ?_) fun _ => ?_))) ?_
  rintro fr1 K1 ⟨f4, rfl⟩ hag1
  refine seq_cut (fun fr K1 => fr 5 = .int .i64 5 ∧ K1 = K.new (.cells [.int .i64 0, .string ⟨⟨[]⟩⟩, .int .i64 0] 50 .ex)) (by repeat' (first | (simp (disch := first | omega | (decide +kernel) | (repeat first | assumption | exact HExt.refl _ | refine HExt.set ?_ (by first | omega | (simp only [new_nx, set_nx]; omega)) _ | refine HExt.new ?_ _)) only [↓RD, RU, accW_t, accW_f, isW, ↓putF_get, ↓putF_none, ↓evF_t, ↓evF_c, ↓evF_f, new_nx, set_nx, new_get, set_get, getD_zero, getD_succ, u_not, pop, lop, aop, wop, resL, resV, tupleV, akV, isVal, isCell, Value.cells, ρ0, ρ1, ρ2, ρ3, ρ4, ↓reduceIte, Nat.reduceEqDiff, Nat.reduceAdd, Int.reduceOfNat, Int.reduceNegSucc, reduceCtorEq, ρ5, ρ6, ρ7, ρ8, srcR_c, src_n, src_v, src_s, bnd, lenV, capV, ρ9, ρ10, ρ11, ρ12, ρ13, ρ14, ρ15, ρ16, ρ17, ρ18, ρ19, ρ20, ρ21, ρ22, ρ23, ρ24, Kd.isRo, ρ25, ρ26, bldV, Nat.reduceLeDiff, Int.reduceMul, Int.reduceAdd, Int.reduceSub, Int.reduceToNat, maxLen_eq, zeros_one, appS_some, appV_n, appV_v, appH_t, appH_f, Kd.isEx, ρ27, partV, CH.set_set, lkV, lkR, isKey, mupV, nxtV, ρ28, ρ29]) | (with_reducible first | refine condK_dec (fun _ => ?_) fun _ => ?_ | refine grd_dec (fun _ => ?_) fun _ => ?_ | refine egrd_dec (fun _ => ?_) fun _ => ?_))) ?_
  rintro fr2 K1 ⟨f5, rfl⟩ hag2
  have hdgs := fun (K : CH) (Q : Value → CH → Prop) (i : Nat) (hi : j + i ≤ t.length) => @digits_iff K t (j + i) hi (by omega) Q
  simp only [hdr] at hdgs
  have hd0 := fun K Q => hdgs K Q 0 (by omega)
  simp only [Nat.add_zero, List.drop_zero] at hd0
  obtain ⟨a, ha⟩ : ∃ a, digN l = a := ⟨_, rfl⟩
  have hal := digN_le (l := l)
  rw [ha] at hd0 hal
  refine seq_cut (fun fr K1 => fr 6 = .int .i64 (j + a : Nat) ∧ K1 = K.new (.cells [.int .i64 0, .string ⟨⟨[]⟩⟩, .int .i64 0] 50 .ex)) (by repeat' (first | (simp (disch := first | omega | (decide +kernel) | (repeat first | assumption | exact HExt.refl _ | refine HExt.set ?_ (by first | omega | (simp only [new_nx, set_nx]; omega)) _ | refine HExt.new ?_ _)) only [↓RD, RU, accW_t, accW_f, isW, ↓putF_get, ↓putF_none, ↓evF_t, ↓evF_c, ↓evF_f, new_nx, set_nx, new_get, set_get, getD_zero, getD_succ, u_not, pop, lop, aop, wop, resL, resV, tupleV, akV, isVal, isCell, Value.cells, ρ0, ρ1, ρ2, ρ3, ρ4, ↓reduceIte, Nat.reduceEqDiff, Nat.reduceAdd, Int.reduceOfNat, Int.reduceNegSucc, reduceCtorEq, ρ5, ρ6, ρ7, ρ8, srcR_c, src_n, src_v, src_s, bnd, lenV, capV, ρ9, ρ10, ρ11, ρ12, ρ13, ρ14, ρ15, ρ16, ρ17, ρ18, ρ19, ρ20, ρ21, ρ22, ρ23, ρ24, Kd.isRo, ρ25, ρ26, bldV, Nat.reduceLeDiff, Int.reduceMul, Int.reduceAdd, Int.reduceSub, Int.reduceToNat, maxLen_eq, zeros_one, appS_some, appV_n, appV_v, appH_t, appH_f, Kd.isEx, ρ27, partV, CH.set_set, lkV, lkR, isKey, mupV, nxtV, ρ28, ρ29, hag1, hag2, hd0]) | (with_reducible first | refine condK_dec (fun _ => ?_) fun _ => ?_ | refine grd_dec (fun _ => ?_) fun _ => ?_ | refine egrd_dec (fun _ => ?_) fun _ => ?_))) ?_
  rintro fr3 K1 ⟨f6, rfl⟩ hag3
  obtain ⟨A, hA⟩ : ∃ A, numA l = A := ⟨_, rfl⟩
  have hAl := numA_len (l := l)
  rw [hA] at hAl
  have hgs := fun (i : Nat) (hi : j + i < t.length) => get_some hi
  simp only [hdr] at hgs
  refine seq_cut (fun fr K1 => fr 5 = .int .i64 (if fracN (l.drop a) = 0 then 5 else 6 : Nat) ∧ fr 6 = .int .i64 (j + A : Nat) ∧ K1 = K.new (.cells [.int .i64 0, .string ⟨⟨[]⟩⟩, .int .i64 0] 50 .ex)) ?_ ?_
  · by_cases hf : hd (l.drop a) = 46 ∧ isDigN (hd (l.drop (a + 1))) = true
    · obtain ⟨hf1, hf2⟩ := hf
      have hin : a + 1 < l.length := by
        have := dig_lt hf2
        exact this
      have g1 := hgs a (by omega)
      have g2 := hgs (a + 1) (by omega)
      rw [hf1] at g1
      have e : A = a + 1 + digN (l.drop (a + 1)) := by
        rw [← hA]
        unfold numA fracN
        rw [ha, if_pos ⟨hf1, by rw [List.drop_drop]; exact hf2⟩, List.drop_drop]; omega
      have hd1 := fun K Q => hdgs K Q (a + 1) (by omega)
      have e2 : fracN (l.drop a) ≠ 0 := by
        unfold fracN
        rw [if_pos ⟨hf1, by rw [List.drop_drop]; exact hf2⟩]; omega
      rw [if_neg e2]
      simp only [← Nat.add_assoc] at g2 hd1
      repeat' (first | (simp (disch := first | omega | (decide +kernel) | (repeat first | assumption | exact HExt.refl _ | refine HExt.set ?_ (by first | omega | (simp only [new_nx, set_nx]; omega)) _ | refine HExt.new ?_ _)) only [↓RD, RU, accW_t, accW_f, isW, ↓putF_get, ↓putF_none, ↓evF_t, ↓evF_c, ↓evF_f, new_nx, set_nx, new_get, set_get, getD_zero, getD_succ, u_not, pop, lop, aop, wop, resL, resV, tupleV, akV, isVal, isCell, Value.cells, ρ0, ρ1, ρ2, ρ3, ρ4, ↓reduceIte, Nat.reduceEqDiff, Nat.reduceAdd, Int.reduceOfNat, Int.reduceNegSucc, reduceCtorEq, ρ5, ρ6, ρ7, ρ8, srcR_c, src_n, src_v, src_s, bnd, lenV, capV, ρ9, ρ10, ρ11, ρ12, ρ13, ρ14, ρ15, ρ16, ρ17, ρ18, ρ19, ρ20, ρ21, ρ22, ρ23, ρ24, Kd.isRo, ρ25, ρ26, bldV, Nat.reduceLeDiff, Int.reduceMul, Int.reduceAdd, Int.reduceSub, Int.reduceToNat, maxLen_eq, zeros_one, appS_some, appV_n, appV_v, appH_t, appH_f, Kd.isEx, ρ27, partV, CH.set_set, lkV, lkR, isKey, mupV, nxtV, ρ28, ρ29, hag1, hag2, hag3, f6, str_size, str_get, g1, g2, rdigit_iff, hf2, n1, hd1]) | (with_reducible first | refine condK_dec (fun _ => ?_) fun _ => ?_ | refine grd_dec (fun _ => ?_) fun _ => ?_ | refine egrd_dec (fun _ => ?_) fun _ => ?_))
      all_goals exact ⟨rfl, congrArg (Value.int .i64) (by omega)⟩
    · have e2 : fracN (l.drop a) = 0 := by
        unfold fracN
        rw [if_neg (fun g => hf ⟨g.1, by have := g.2; rw [List.drop_drop] at this; exact this⟩)]
      have e : A = a := by rw [← hA]; unfold numA; rw [ha, e2]; rfl
      rw [if_pos e2, e]
      by_cases hin : a + 1 < l.length
      · have g1 := hgs a (by omega)
        have g2 := hgs (a + 1) (by omega)
        simp only [← Nat.add_assoc] at g2
        by_cases hf1 : hd (l.drop a) = 46
        · have hf2 : isDigN (hd (l.drop (a + 1))) = false := by simpa using fun g => hf ⟨hf1, g⟩
          rw [hf1] at g1
          repeat' (first | (simp (disch := first | omega | (decide +kernel) | (repeat first | assumption | exact HExt.refl _ | refine HExt.set ?_ (by first | omega | (simp only [new_nx, set_nx]; omega)) _ | refine HExt.new ?_ _)) only [↓RD, RU, accW_t, accW_f, isW, ↓putF_get, ↓putF_none, ↓evF_t, ↓evF_c, ↓evF_f, new_nx, set_nx, new_get, set_get, getD_zero, getD_succ, u_not, pop, lop, aop, wop, resL, resV, tupleV, akV, isVal, isCell, Value.cells, ρ0, ρ1, ρ2, ρ3, ρ4, ↓reduceIte, Nat.reduceEqDiff, Nat.reduceAdd, Int.reduceOfNat, Int.reduceNegSucc, reduceCtorEq, ρ5, ρ6, ρ7, ρ8, srcR_c, src_n, src_v, src_s, bnd, lenV, capV, ρ9, ρ10, ρ11, ρ12, ρ13, ρ14, ρ15, ρ16, ρ17, ρ18, ρ19, ρ20, ρ21, ρ22, ρ23, ρ24, Kd.isRo, ρ25, ρ26, bldV, Nat.reduceLeDiff, Int.reduceMul, Int.reduceAdd, Int.reduceSub, Int.reduceToNat, maxLen_eq, zeros_one, appS_some, appV_n, appV_v, appH_t, appH_f, Kd.isEx, ρ27, partV, CH.set_set, lkV, lkR, isKey, mupV, nxtV, ρ28, ρ29, hag1, hag2, hag3, f5, f6, str_size, str_get, g1, g2, rdigit_iff, hf2, n1]) | (with_reducible first | refine condK_dec (fun _ => ?_) fun _ => ?_ | refine grd_dec (fun _ => ?_) fun _ => ?_ | refine egrd_dec (fun _ => ?_) fun _ => ?_))
          all_goals rfl
        · repeat' (first | (simp (disch := first | omega | (decide +kernel) | (repeat first | assumption | exact HExt.refl _ | refine HExt.set ?_ (by first | omega | (simp only [new_nx, set_nx]; omega)) _ | refine HExt.new ?_ _)) only [↓RD, RU, accW_t, accW_f, isW, ↓putF_get, ↓putF_none, ↓evF_t, ↓evF_c, ↓evF_f, new_nx, set_nx, new_get, set_get, getD_zero, getD_succ, u_not, pop, lop, aop, wop, resL, resV, tupleV, akV, isVal, isCell, Value.cells, ρ0, ρ1, ρ2, ρ3, ρ4, ↓reduceIte, Nat.reduceEqDiff, Nat.reduceAdd, Int.reduceOfNat, Int.reduceNegSucc, reduceCtorEq, ρ5, ρ6, ρ7, ρ8, srcR_c, src_n, src_v, src_s, bnd, lenV, capV, ρ9, ρ10, ρ11, ρ12, ρ13, ρ14, ρ15, ρ16, ρ17, ρ18, ρ19, ρ20, ρ21, ρ22, ρ23, ρ24, Kd.isRo, ρ25, ρ26, bldV, Nat.reduceLeDiff, Int.reduceMul, Int.reduceAdd, Int.reduceSub, Int.reduceToNat, maxLen_eq, zeros_one, appS_some, appV_n, appV_v, appH_t, appH_f, Kd.isEx, ρ27, partV, CH.set_set, lkV, lkR, isKey, mupV, nxtV, ρ28, ρ29, hag1, hag2, hag3, f5, f6, str_size, str_get, g1, g2, rdigit_iff, hf1, n1]) | (with_reducible first | refine condK_dec (fun _ => ?_) fun _ => ?_ | refine grd_dec (fun _ => ?_) fun _ => ?_ | refine egrd_dec (fun _ => ?_) fun _ => ?_))
          all_goals rfl
      · repeat' (first | (simp (disch := first | omega | (decide +kernel) | (repeat first | assumption | exact HExt.refl _ | refine HExt.set ?_ (by first | omega | (simp only [new_nx, set_nx]; omega)) _ | refine HExt.new ?_ _)) only [↓RD, RU, accW_t, accW_f, isW, ↓putF_get, ↓putF_none, ↓evF_t, ↓evF_c, ↓evF_f, new_nx, set_nx, new_get, set_get, getD_zero, getD_succ, u_not, pop, lop, aop, wop, resL, resV, tupleV, akV, isVal, isCell, Value.cells, ρ0, ρ1, ρ2, ρ3, ρ4, ↓reduceIte, Nat.reduceEqDiff, Nat.reduceAdd, Int.reduceOfNat, Int.reduceNegSucc, reduceCtorEq, ρ5, ρ6, ρ7, ρ8, srcR_c, src_n, src_v, src_s, bnd, lenV, capV, ρ9, ρ10, ρ11, ρ12, ρ13, ρ14, ρ15, ρ16, ρ17, ρ18, ρ19, ρ20, ρ21, ρ22, ρ23, ρ24, Kd.isRo, ρ25, ρ26, bldV, Nat.reduceLeDiff, Int.reduceMul, Int.reduceAdd, Int.reduceSub, Int.reduceToNat, maxLen_eq, zeros_one, appS_some, appV_n, appV_v, appH_t, appH_f, Kd.isEx, ρ27, partV, CH.set_set, lkV, lkR, isKey, mupV, nxtV, ρ28, ρ29, hag1, hag2, hag3, f5, f6, str_size, str_get, n1]) | (with_reducible first | refine condK_dec (fun _ => ?_) fun _ => ?_ | refine grd_dec (fun _ => ?_) fun _ => ?_ | refine egrd_dec (fun _ => ?_) fun _ => ?_))
        all_goals rfl
  rintro fr4 K1 ⟨f5', f6', rfl⟩ hag4
  obtain ⟨N, hN⟩ : ∃ N, numN l = N := ⟨_, rfl⟩
  obtain ⟨kd, hkd⟩ : ∃ kd, numK l = kd := ⟨_, rfl⟩
  have hNl := numN_len (l := l)
  rw [hN] at hNl
  have hN' : N = A + expN (l.drop A) := by rw [← hN]; unfold numN; rw [hA]
  have hkd' : kd = if fracN (l.drop a) = 0 ∧ expN (l.drop A) = 0 then 5 else 6 := by rw [← hkd]; unfold numK; rw [ha, hA]
  have hk0 : expN (l.drop A) = 0 → (if fracN (l.drop a) = 0 then 5 else 6 : Nat) = kd := fun g => by
    rw [hkd', g]
    by_cases h0 : fracN (l.drop a) = 0
    · rw [if_pos h0, if_pos ⟨h0, rfl⟩]
    · rw [if_neg h0, if_neg (fun g => h0 g.1)]
  have hk1 : expN (l.drop A) ≠ 0 → kd = 6 := fun g => by rw [hkd', if_neg (fun g' => g g'.2)]
  refine seq_cut (fun fr K1 => fr 5 = .int .i64 (kd : Nat) ∧ fr 6 = .int .i64 (j + N : Nat) ∧ K1 = K.new (.cells [.int .i64 0, .string ⟨⟨[]⟩⟩, .int .i64 0] 50 .ex)) ?_ ?_
  · have hin : ∀ i, hd (l.drop i) ≠ 0 → i < l.length := fun i h => by
      have := hd_pos h
      simp only [List.length_drop] at this; omega
    have e1 : expN (l.drop A) = if hd (l.drop A) = 101 then (if isDigN (hd (l.drop (A + 1))) = true then 1 + digN (l.drop (A + 1)) else if (hd (l.drop (A + 1)) = 43 ∨ hd (l.drop (A + 1)) = 45) ∧ isDigN (hd (l.drop (A + 2))) = true then 2 + digN (l.drop (A + 2)) else 0) else 0 := by
      unfold expN; simp only [List.drop_drop]
    by_cases hE : hd (l.drop A) = 101
    · have h0 := hin A (by omega)
      have g0 := hgs A (by omega)
      rw [hE] at g0
      rw [if_pos hE] at e1
      by_cases hs : hd (l.drop (A + 1)) = 43 ∨ hd (l.drop (A + 1)) = 45
      · have h1 := hin (A + 1) (by omega)
        have g1 := hgs (A + 1) (by omega)
        have hnd : isDigN (hd (l.drop (A + 1))) = false := by
          rcases hs with g | g <;> rw [g] <;> decide
        rw [hnd, if_neg (by decide)] at e1
        simp only [← Nat.add_assoc] at g1
        by_cases hd2 : isDigN (hd (l.drop (A + 2))) = true
        · have h2 : A + 2 < l.length := dig_lt hd2
          have g2 := hgs (A + 2) (by omega)
          rw [if_pos ⟨hs, hd2⟩] at e1
          have hkk := hk1 (by omega)
          have hdd := fun K Q => hdgs K Q (A + 2) (by omega)
          simp only [← Nat.add_assoc] at g2 hdd
          rcases hs with hs | hs <;> rw [hs] at g1
          all_goals
            repeat' (first | (simp (disch := first | omega | (decide +kernel) | (repeat first | assumption | exact HExt.refl _ | refine HExt.set ?_ (by first | omega | (simp only [new_nx, set_nx]; omega)) _ | refine HExt.new ?_ _)) only [↓RD, RU, accW_t, accW_f, isW, ↓putF_get, ↓putF_none, ↓evF_t, ↓evF_c, ↓evF_f, new_nx, set_nx, new_get, set_get, getD_zero, getD_succ, u_not, pop, lop, aop, wop, resL, resV, tupleV, akV, isVal, isCell, Value.cells, ρ0, ρ1, ρ2, ρ3, ρ4, ↓reduceIte, Nat.reduceEqDiff, Nat.reduceAdd, Int.reduceOfNat, Int.reduceNegSucc, reduceCtorEq, ρ5, ρ6, ρ7, ρ8, srcR_c, src_n, src_v, src_s, bnd, lenV, capV, ρ9, ρ10, ρ11, ρ12, ρ13, ρ14, ρ15, ρ16, ρ17, ρ18, ρ19, ρ20, ρ21, ρ22, ρ23, ρ24, Kd.isRo, ρ25, ρ26, bldV, Nat.reduceLeDiff, Int.reduceMul, Int.reduceAdd, Int.reduceSub, Int.reduceToNat, maxLen_eq, zeros_one, appS_some, appV_n, appV_v, appH_t, appH_f, Kd.isEx, ρ27, partV, CH.set_set, lkV, lkR, isKey, mupV, nxtV, ρ28, ρ29, hag1, hag2, hag3, hag4, f5', f6', str_size, str_get, g0, g1, g2, rdigit_iff, hd2, n1, n2, hdd]) | (with_reducible first | refine condK_dec (fun _ => ?_) fun _ => ?_ | refine grd_dec (fun _ => ?_) fun _ => ?_ | refine egrd_dec (fun _ => ?_) fun _ => ?_))
            all_goals exact ⟨by rw [hkk]; rfl, congrArg (Value.int .i64) (by omega)⟩
        · rw [if_neg (fun g => hd2 g.2)] at e1
          have hkk := hk0 e1
          rw [hkk] at f5'
          have hNA : N = A := by omega
          rw [hNA]
          by_cases h2 : A + 2 < l.length
          · have g2 := hgs (A + 2) (by omega)
            simp only [← Nat.add_assoc] at g2
            rcases hs with hs | hs <;> rw [hs] at g1
            all_goals
              repeat' (first | (simp (disch := first | omega | (decide +kernel) | (repeat first | assumption | exact HExt.refl _ | refine HExt.set ?_ (by first | omega | (simp only [new_nx, set_nx]; omega)) _ | refine HExt.new ?_ _)) only [↓RD, RU, accW_t, accW_f, isW, ↓putF_get, ↓putF_none, ↓evF_t, ↓evF_c, ↓evF_f, new_nx, set_nx, new_get, set_get, getD_zero, getD_succ, u_not, pop, lop, aop, wop, resL, resV, tupleV, akV, isVal, isCell, Value.cells, ρ0, ρ1, ρ2, ρ3, ρ4, ↓reduceIte, Nat.reduceEqDiff, Nat.reduceAdd, Int.reduceOfNat, Int.reduceNegSucc, reduceCtorEq, ρ5, ρ6, ρ7, ρ8, srcR_c, src_n, src_v, src_s, bnd, lenV, capV, ρ9, ρ10, ρ11, ρ12, ρ13, ρ14, ρ15, ρ16, ρ17, ρ18, ρ19, ρ20, ρ21, ρ22, ρ23, ρ24, Kd.isRo, ρ25, ρ26, bldV, Nat.reduceLeDiff, Int.reduceMul, Int.reduceAdd, Int.reduceSub, Int.reduceToNat, maxLen_eq, zeros_one, appS_some, appV_n, appV_v, appH_t, appH_f, Kd.isEx, ρ27, partV, CH.set_set, lkV, lkR, isKey, mupV, nxtV, ρ28, ρ29, hag1, hag2, hag3, hag4, f5', f6', str_size, str_get, g0, g1, g2, rdigit_iff, hd2, n1, n2]) | (with_reducible first | refine condK_dec (fun _ => ?_) fun _ => ?_ | refine grd_dec (fun _ => ?_) fun _ => ?_ | refine egrd_dec (fun _ => ?_) fun _ => ?_))
          · rcases hs with hs | hs <;> rw [hs] at g1
            all_goals
              repeat' (first | (simp (disch := first | omega | (decide +kernel) | (repeat first | assumption | exact HExt.refl _ | refine HExt.set ?_ (by first | omega | (simp only [new_nx, set_nx]; omega)) _ | refine HExt.new ?_ _)) only [↓RD, RU, accW_t, accW_f, isW, ↓putF_get, ↓putF_none, ↓evF_t, ↓evF_c, ↓evF_f, new_nx, set_nx, new_get, set_get, getD_zero, getD_succ, u_not, pop, lop, aop, wop, resL, resV, tupleV, akV, isVal, isCell, Value.cells, ρ0, ρ1, ρ2, ρ3, ρ4, ↓reduceIte, Nat.reduceEqDiff, Nat.reduceAdd, Int.reduceOfNat, Int.reduceNegSucc, reduceCtorEq, ρ5, ρ6, ρ7, ρ8, srcR_c, src_n, src_v, src_s, bnd, lenV, capV, ρ9, ρ10, ρ11, ρ12, ρ13, ρ14, ρ15, ρ16, ρ17, ρ18, ρ19, ρ20, ρ21, ρ22, ρ23, ρ24, Kd.isRo, ρ25, ρ26, bldV, Nat.reduceLeDiff, Int.reduceMul, Int.reduceAdd, Int.reduceSub, Int.reduceToNat, maxLen_eq, zeros_one, appS_some, appV_n, appV_v, appH_t, appH_f, Kd.isEx, ρ27, partV, CH.set_set, lkV, lkR, isKey, mupV, nxtV, ρ28, ρ29, hag1, hag2, hag3, hag4, f5', f6', str_size, str_get, g0, g1, rdigit_iff, hd2, n1, n2]) | (with_reducible first | refine condK_dec (fun _ => ?_) fun _ => ?_ | refine grd_dec (fun _ => ?_) fun _ => ?_ | refine egrd_dec (fun _ => ?_) fun _ => ?_))
      · have hs1 : ¬ hd (l.drop (A + 1)) = 43 := fun g => hs (.inl g)
        have hs2 : ¬ hd (l.drop (A + 1)) = 45 := fun g => hs (.inr g)
        by_cases hd2 : isDigN (hd (l.drop (A + 1))) = true
        · have h2 : A + 1 < l.length := dig_lt hd2
          have g1 := hgs (A + 1) (by omega)
          rw [if_pos hd2] at e1
          have hkk := hk1 (by omega)
          have hdd := fun K Q => hdgs K Q (A + 1) (by omega)
          simp only [← Nat.add_assoc] at g1 hdd
          repeat' (first | (simp (disch := first | omega | (decide +kernel) | (repeat first | assumption | exact HExt.refl _ | refine HExt.set ?_ (by first | omega | (simp only [new_nx, set_nx]; omega)) _ | refine HExt.new ?_ _)) only [↓RD, RU, accW_t, accW_f, isW, ↓putF_get, ↓putF_none, ↓evF_t, ↓evF_c, ↓evF_f, new_nx, set_nx, new_get, set_get, getD_zero, getD_succ, u_not, pop, lop, aop, wop, resL, resV, tupleV, akV, isVal, isCell, Value.cells, ρ0, ρ1, ρ2, ρ3, ρ4, ↓reduceIte, Nat.reduceEqDiff, Nat.reduceAdd, Int.reduceOfNat, Int.reduceNegSucc, reduceCtorEq, ρ5, ρ6, ρ7, ρ8, srcR_c, src_n, src_v, src_s, bnd, lenV, capV, ρ9, ρ10, ρ11, ρ12, ρ13, ρ14, ρ15, ρ16, ρ17, ρ18, ρ19, ρ20, ρ21, ρ22, ρ23, ρ24, Kd.isRo, ρ25, ρ26, bldV, Nat.reduceLeDiff, Int.reduceMul, Int.reduceAdd, Int.reduceSub, Int.reduceToNat, maxLen_eq, zeros_one, appS_some, appV_n, appV_v, appH_t, appH_f, Kd.isEx, ρ27, partV, CH.set_set, lkV, lkR, isKey, mupV, nxtV, ρ28, ρ29, hag1, hag2, hag3, hag4, f5', f6', str_size, str_get, g0, g1, rdigit_iff, hd2, hs1, hs2, n1, n2, hdd]) | (with_reducible first | refine condK_dec (fun _ => ?_) fun _ => ?_ | refine grd_dec (fun _ => ?_) fun _ => ?_ | refine egrd_dec (fun _ => ?_) fun _ => ?_))
          all_goals exact ⟨by rw [hkk]; rfl, congrArg (Value.int .i64) (by omega)⟩
        · rw [if_neg hd2, if_neg (fun g => hs g.1)] at e1
          have hkk := hk0 e1
          rw [hkk] at f5'
          have hNA : N = A := by omega
          rw [hNA]
          by_cases h2 : A + 1 < l.length
          · have g1 := hgs (A + 1) (by omega)
            simp only [← Nat.add_assoc] at g1
            repeat' (first | (simp (disch := first | omega | (decide +kernel) | (repeat first | assumption | exact HExt.refl _ | refine HExt.set ?_ (by first | omega | (simp only [new_nx, set_nx]; omega)) _ | refine HExt.new ?_ _)) only [↓RD, RU, accW_t, accW_f, isW, ↓putF_get, ↓putF_none, ↓evF_t, ↓evF_c, ↓evF_f, new_nx, set_nx, new_get, set_get, getD_zero, getD_succ, u_not, pop, lop, aop, wop, resL, resV, tupleV, akV, isVal, isCell, Value.cells, ρ0, ρ1, ρ2, ρ3, ρ4, ↓reduceIte, Nat.reduceEqDiff, Nat.reduceAdd, Int.reduceOfNat, Int.reduceNegSucc, reduceCtorEq, ρ5, ρ6, ρ7, ρ8, srcR_c, src_n, src_v, src_s, bnd, lenV, capV, ρ9, ρ10, ρ11, ρ12, ρ13, ρ14, ρ15, ρ16, ρ17, ρ18, ρ19, ρ20, ρ21, ρ22, ρ23, ρ24, Kd.isRo, ρ25, ρ26, bldV, Nat.reduceLeDiff, Int.reduceMul, Int.reduceAdd, Int.reduceSub, Int.reduceToNat, maxLen_eq, zeros_one, appS_some, appV_n, appV_v, appH_t, appH_f, Kd.isEx, ρ27, partV, CH.set_set, lkV, lkR, isKey, mupV, nxtV, ρ28, ρ29, hag1, hag2, hag3, hag4, f5', f6', str_size, str_get, g0, g1, rdigit_iff, hd2, hs1, hs2, n1, n2]) | (with_reducible first | refine condK_dec (fun _ => ?_) fun _ => ?_ | refine grd_dec (fun _ => ?_) fun _ => ?_ | refine egrd_dec (fun _ => ?_) fun _ => ?_))
          · repeat' (first | (simp (disch := first | omega | (decide +kernel) | (repeat first | assumption | exact HExt.refl _ | refine HExt.set ?_ (by first | omega | (simp only [new_nx, set_nx]; omega)) _ | refine HExt.new ?_ _)) only [↓RD, RU, accW_t, accW_f, isW, ↓putF_get, ↓putF_none, ↓evF_t, ↓evF_c, ↓evF_f, new_nx, set_nx, new_get, set_get, getD_zero, getD_succ, u_not, pop, lop, aop, wop, resL, resV, tupleV, akV, isVal, isCell, Value.cells, ρ0, ρ1, ρ2, ρ3, ρ4, ↓reduceIte, Nat.reduceEqDiff, Nat.reduceAdd, Int.reduceOfNat, Int.reduceNegSucc, reduceCtorEq, ρ5, ρ6, ρ7, ρ8, srcR_c, src_n, src_v, src_s, bnd, lenV, capV, ρ9, ρ10, ρ11, ρ12, ρ13, ρ14, ρ15, ρ16, ρ17, ρ18, ρ19, ρ20, ρ21, ρ22, ρ23, ρ24, Kd.isRo, ρ25, ρ26, bldV, Nat.reduceLeDiff, Int.reduceMul, Int.reduceAdd, Int.reduceSub, Int.reduceToNat, maxLen_eq, zeros_one, appS_some, appV_n, appV_v, appH_t, appH_f, Kd.isEx, ρ27, partV, CH.set_set, lkV, lkR, isKey, mupV, nxtV, ρ28, ρ29, hag1, hag2, hag3, hag4, f5', f6', str_size, str_get, g0, rdigit_iff, hd2, n1, n2]) | (with_reducible first | refine condK_dec (fun _ => ?_) fun _ => ?_ | refine grd_dec (fun _ => ?_) fun _ => ?_ | refine egrd_dec (fun _ => ?_) fun _ => ?_))
    · rw [if_neg hE] at e1
      have hkk := hk0 e1
      rw [hkk] at f5'
      have hNA : N = A := by omega
      rw [hNA]
      by_cases h2 : A < l.length
      · have g0 := hgs A (by omega)
        repeat' (first | (simp (disch := first | omega | (decide +kernel) | (repeat first | assumption | exact HExt.refl _ | refine HExt.set ?_ (by first | omega | (simp only [new_nx, set_nx]; omega)) _ | refine HExt.new ?_ _)) only [↓RD, RU, accW_t, accW_f, isW, ↓putF_get, ↓putF_none, ↓evF_t, ↓evF_c, ↓evF_f, new_nx, set_nx, new_get, set_get, getD_zero, getD_succ, u_not, pop, lop, aop, wop, resL, resV, tupleV, akV, isVal, isCell, Value.cells, ρ0, ρ1, ρ2, ρ3, ρ4, ↓reduceIte, Nat.reduceEqDiff, Nat.reduceAdd, Int.reduceOfNat, Int.reduceNegSucc, reduceCtorEq, ρ5, ρ6, ρ7, ρ8, srcR_c, src_n, src_v, src_s, bnd, lenV, capV, ρ9, ρ10, ρ11, ρ12, ρ13, ρ14, ρ15, ρ16, ρ17, ρ18, ρ19, ρ20, ρ21, ρ22, ρ23, ρ24, Kd.isRo, ρ25, ρ26, bldV, Nat.reduceLeDiff, Int.reduceMul, Int.reduceAdd, Int.reduceSub, Int.reduceToNat, maxLen_eq, zeros_one, appS_some, appV_n, appV_v, appH_t, appH_f, Kd.isEx, ρ27, partV, CH.set_set, lkV, lkR, isKey, mupV, nxtV, ρ28, ρ29, hag1, hag2, hag3, hag4, f5', f6', str_size, str_get, g0, hE, n1]) | (with_reducible first | refine condK_dec (fun _ => ?_) fun _ => ?_ | refine grd_dec (fun _ => ?_) fun _ => ?_ | refine egrd_dec (fun _ => ?_) fun _ => ?_))
      · repeat' (first | (simp (disch := first | omega | (decide +kernel) | (repeat first | assumption | exact HExt.refl _ | refine HExt.set ?_ (by first | omega | (simp only [new_nx, set_nx]; omega)) _ | refine HExt.new ?_ _)) only [↓RD, RU, accW_t, accW_f, isW, ↓putF_get, ↓putF_none, ↓evF_t, ↓evF_c, ↓evF_f, new_nx, set_nx, new_get, set_get, getD_zero, getD_succ, u_not, pop, lop, aop, wop, resL, resV, tupleV, akV, isVal, isCell, Value.cells, ρ0, ρ1, ρ2, ρ3, ρ4, ↓reduceIte, Nat.reduceEqDiff, Nat.reduceAdd, Int.reduceOfNat, Int.reduceNegSucc, reduceCtorEq, ρ5, ρ6, ρ7, ρ8, srcR_c, src_n, src_v, src_s, bnd, lenV, capV, ρ9, ρ10, ρ11, ρ12, ρ13, ρ14, ρ15, ρ16, ρ17, ρ18, ρ19, ρ20, ρ21, ρ22, ρ23, ρ24, Kd.isRo, ρ25, ρ26, bldV, Nat.reduceLeDiff, Int.reduceMul, Int.reduceAdd, Int.reduceSub, Int.reduceToNat, maxLen_eq, zeros_one, appS_some, appV_n, appV_v, appH_t, appH_f, Kd.isEx, ρ27, partV, CH.set_set, lkV, lkR, isKey, mupV, nxtV, ρ28, ρ29, hag1, hag2, hag3, hag4, f5', f6', str_size, str_get, n1]) | (with_reducible first | refine condK_dec (fun _ => ?_) fun _ => ?_ | refine grd_dec (fun _ => ?_) fun _ => ?_ | refine egrd_dec (fun _ => ?_) fun _ => ?_))
  rintro fr5 K1 ⟨f5'', f6'', rfl⟩ hag5
  have hjN : j + N - j = N := by omega
  refine seq_cut (fun fr K1 => fr 8 = .string (str (l.take N)) ∧ K1 = K.new (.cells [.int .i64 0, .string ⟨⟨[]⟩⟩, .int .i64 0] 50 .ex)) (by repeat' (first | (simp (disch := first | omega | (decide +kernel) | (repeat first | assumption | exact HExt.refl _ | refine HExt.set ?_ (by first | omega | (simp only [new_nx, set_nx]; omega)) _ | refine HExt.new ?_ _)) only [↓RD, RU, accW_t, accW_f, isW, ↓putF_get, ↓putF_none, ↓evF_t, ↓evF_c, ↓evF_f, new_nx, set_nx, new_get, set_get, getD_zero, getD_succ, u_not, pop, lop, aop, wop, resL, resV, tupleV, akV, isVal, isCell, Value.cells, ρ0, ρ1, ρ2, ρ3, ρ4, ↓reduceIte, Nat.reduceEqDiff, Nat.reduceAdd, Int.reduceOfNat, Int.reduceNegSucc, reduceCtorEq, ρ5, ρ6, ρ7, ρ8, srcR_c, src_n, src_v, src_s, bnd, lenV, capV, ρ9, ρ10, ρ11, ρ12, ρ13, ρ14, ρ15, ρ16, ρ17, ρ18, ρ19, ρ20, ρ21, ρ22, ρ23, ρ24, Kd.isRo, ρ25, ρ26, bldV, Nat.reduceLeDiff, Int.reduceMul, Int.reduceAdd, Int.reduceSub, Int.reduceToNat, maxLen_eq, zeros_one, appS_some, appV_n, appV_v, appH_t, appH_f, Kd.isEx, ρ27, partV, CH.set_set, lkV, lkR, isKey, mupV, nxtV, ρ28, ρ29, hag1, hag2, hag3, hag4, hag5, f6'', str_size, str_ext, hl', hjN]) | (with_reducible first | refine condK_dec (fun _ => ?_) fun _ => ?_ | refine grd_dec (fun _ => ?_) fun _ => ?_ | refine egrd_dec (fun _ => ?_) fun _ => ?_))) ?_
  rintro fr6 K1 ⟨f8, rfl⟩ hag6
  have hN0 : 0 < N := by
    have := nW_yes (p := isDigN) (l := l) (j := 0) (by omega) (by simpa using hdg)
    have h1 : digN l ≤ numA l := by unfold numA; omega
    have h2 : digN l = nW isDigN (l.drop 0) := by simp [digN]
    omega
  have hNlen : (l.take N).length = N := by simp; omega
  have h00 : ((l.take N)[0]?).map (fun b => Value.int .u8 (b.toNat : Int)) = some (.int .u8 (hd l : Nat)) := by
    rw [List.getElem?_take_of_lt hN0]
    have := hgs 0 (by omega)
    simp only [Nat.add_zero, List.drop_zero] at this
    rw [← this, ← hl', List.getElem?_drop]; simp
  have hbv : numBad l = (isLetN (hd (l.drop N)) || decide (hd (l.drop N) = 46) || decide (540 < N) || (decide (kd = 5) && decide (1 < N) && decide (hd l = 48))) := by
    unfold numBad; rw [hN, hkd]
  have hgN := fun (h : N < l.length) => hgs N (by omega)
  have hx := ((HExt.refl K).new (.cells [.int .i64 0, .string ⟨⟨[]⟩⟩, .int .i64 0] 50 .ex))
  by_cases c1 : 540 < N
  · rw [if_pos (by rw [hbv]; simp [c1])]
    repeat' (first | (simp (disch := first | omega | (decide +kernel) | (repeat first | assumption | exact HExt.refl _ | refine HExt.set ?_ (by first | omega | (simp only [new_nx, set_nx]; omega)) _ | refine HExt.new ?_ _)) only [↓RD, RU, accW_t, accW_f, isW, ↓putF_get, ↓putF_none, ↓evF_t, ↓evF_c, ↓evF_f, new_nx, set_nx, new_get, set_get, getD_zero, getD_succ, u_not, pop, lop, aop, wop, resL, resV, tupleV, akV, isVal, isCell, Value.cells, ρ0, ρ1, ρ2, ρ3, ρ4, ↓reduceIte, Nat.reduceEqDiff, Nat.reduceAdd, Int.reduceOfNat, Int.reduceNegSucc, reduceCtorEq, ρ5, ρ6, ρ7, ρ8, srcR_c, src_n, src_v, src_s, bnd, lenV, capV, ρ9, ρ10, ρ11, ρ12, ρ13, ρ14, ρ15, ρ16, ρ17, ρ18, ρ19, ρ20, ρ21, ρ22, ρ23, ρ24, Kd.isRo, ρ25, ρ26, bldV, Nat.reduceLeDiff, Int.reduceMul, Int.reduceAdd, Int.reduceSub, Int.reduceToNat, maxLen_eq, zeros_one, appS_some, appV_n, appV_v, appH_t, appH_f, Kd.isEx, ρ27, partV, CH.set_set, lkV, lkR, isKey, mupV, nxtV, ρ28, ρ29, hag1, hag2, hag3, hag4, hag5, hag6, f4, f5'', f6'', f8, hNlen, str_size]) | (with_reducible first | refine condK_dec (fun _ => ?_) fun _ => ?_ | refine grd_dec (fun _ => ?_) fun _ => ?_ | refine egrd_dec (fun _ => ?_) fun _ => ?_))
    all_goals exact ⟨hx.set (Nat.le_refl _) _, rfl⟩
  · by_cases c2 : kd = 5 ∧ 1 < N ∧ hd l = 48
    · obtain ⟨c2, c3, c4⟩ := c2
      rw [if_pos (by rw [hbv]; simp [c2, c3, c4])]
      rw [c4] at h00
      repeat' (first | (simp (disch := first | omega | (decide +kernel) | (repeat first | assumption | exact HExt.refl _ | refine HExt.set ?_ (by first | omega | (simp only [new_nx, set_nx]; omega)) _ | refine HExt.new ?_ _)) only [↓RD, RU, accW_t, accW_f, isW, ↓putF_get, ↓putF_none, ↓evF_t, ↓evF_c, ↓evF_f, new_nx, set_nx, new_get, set_get, getD_zero, getD_succ, u_not, pop, lop, aop, wop, resL, resV, tupleV, akV, isVal, isCell, Value.cells, ρ0, ρ1, ρ2, ρ3, ρ4, ↓reduceIte, Nat.reduceEqDiff, Nat.reduceAdd, Int.reduceOfNat, Int.reduceNegSucc, reduceCtorEq, ρ5, ρ6, ρ7, ρ8, srcR_c, src_n, src_v, src_s, bnd, lenV, capV, ρ9, ρ10, ρ11, ρ12, ρ13, ρ14, ρ15, ρ16, ρ17, ρ18, ρ19, ρ20, ρ21, ρ22, ρ23, ρ24, Kd.isRo, ρ25, ρ26, bldV, Nat.reduceLeDiff, Int.reduceMul, Int.reduceAdd, Int.reduceSub, Int.reduceToNat, maxLen_eq, zeros_one, appS_some, appV_n, appV_v, appH_t, appH_f, Kd.isEx, ρ27, partV, CH.set_set, lkV, lkR, isKey, mupV, nxtV, ρ28, ρ29, hag1, hag2, hag3, hag4, hag5, hag6, f4, f5'', f6'', f8, hNlen, str_size, str_get, h00, c2]) | (with_reducible first | refine condK_dec (fun _ => ?_) fun _ => ?_ | refine grd_dec (fun _ => ?_) fun _ => ?_ | refine egrd_dec (fun _ => ?_) fun _ => ?_))
      all_goals exact ⟨hx.set (Nat.le_refl _) _, rfl⟩
    · by_cases c5 : N < l.length
      · have gN := hgN c5
        by_cases c6 : isLetN (hd (l.drop N)) = true
        · rw [if_pos (by rw [hbv]; simp [c6])]
          repeat' (first | (simp (disch := first | omega | (decide +kernel) | (repeat first | assumption | exact HExt.refl _ | refine HExt.set ?_ (by first | omega | (simp only [new_nx, set_nx]; omega)) _ | refine HExt.new ?_ _)) only [↓RD, RU, accW_t, accW_f, isW, ↓putF_get, ↓putF_none, ↓evF_t, ↓evF_c, ↓evF_f, new_nx, set_nx, new_get, set_get, getD_zero, getD_succ, u_not, pop, lop, aop, wop, resL, resV, tupleV, akV, isVal, isCell, Value.cells, ρ0, ρ1, ρ2, ρ3, ρ4, ↓reduceIte, Nat.reduceEqDiff, Nat.reduceAdd, Int.reduceOfNat, Int.reduceNegSucc, reduceCtorEq, ρ5, ρ6, ρ7, ρ8, srcR_c, src_n, src_v, src_s, bnd, lenV, capV, ρ9, ρ10, ρ11, ρ12, ρ13, ρ14, ρ15, ρ16, ρ17, ρ18, ρ19, ρ20, ρ21, ρ22, ρ23, ρ24, Kd.isRo, ρ25, ρ26, bldV, Nat.reduceLeDiff, Int.reduceMul, Int.reduceAdd, Int.reduceSub, Int.reduceToNat, maxLen_eq, zeros_one, appS_some, appV_n, appV_v, appH_t, appH_f, Kd.isEx, ρ27, partV, CH.set_set, lkV, lkR, isKey, mupV, nxtV, ρ28, ρ29, hag1, hag2, hag3, hag4, hag5, hag6, f4, f5'', f6'', f8, hNlen, str_size, str_get, h00, gN, rletter_iff, c6]) | (with_reducible first | refine condK_dec (fun _ => ?_) fun _ => ?_ | refine grd_dec (fun _ => ?_) fun _ => ?_ | refine egrd_dec (fun _ => ?_) fun _ => ?_))
          all_goals first | exact ⟨hx.set (Nat.le_refl _) _, rfl⟩ | (exfalso; omega)
        · have c6' : isLetN (hd (l.drop N)) = false := by simpa using c6
          by_cases c7 : hd (l.drop N) = 46
          · rw [if_pos (by rw [hbv]; simp [c7])]
            repeat' (first | (simp (disch := first | omega | (decide +kernel) | (repeat first | assumption | exact HExt.refl _ | refine HExt.set ?_ (by first | omega | (simp only [new_nx, set_nx]; omega)) _ | refine HExt.new ?_ _)) only [↓RD, RU, accW_t, accW_f, isW, ↓putF_get, ↓putF_none, ↓evF_t, ↓evF_c, ↓evF_f, new_nx, set_nx, new_get, set_get, getD_zero, getD_succ, u_not, pop, lop, aop, wop, resL, resV, tupleV, akV, isVal, isCell, Value.cells, ρ0, ρ1, ρ2, ρ3, ρ4, ↓reduceIte, Nat.reduceEqDiff, Nat.reduceAdd, Int.reduceOfNat, Int.reduceNegSucc, reduceCtorEq, ρ5, ρ6, ρ7, ρ8, srcR_c, src_n, src_v, src_s, bnd, lenV, capV, ρ9, ρ10, ρ11, ρ12, ρ13, ρ14, ρ15, ρ16, ρ17, ρ18, ρ19, ρ20, ρ21, ρ22, ρ23, ρ24, Kd.isRo, ρ25, ρ26, bldV, Nat.reduceLeDiff, Int.reduceMul, Int.reduceAdd, Int.reduceSub, Int.reduceToNat, maxLen_eq, zeros_one, appS_some, appV_n, appV_v, appH_t, appH_f, Kd.isEx, ρ27, partV, CH.set_set, lkV, lkR, isKey, mupV, nxtV, ρ28, ρ29, hag1, hag2, hag3, hag4, hag5, hag6, f4, f5'', f6'', f8, hNlen, str_size, str_get, h00, gN, rletter_iff, let46, c7]) | (with_reducible first | refine condK_dec (fun _ => ?_) fun _ => ?_ | refine grd_dec (fun _ => ?_) fun _ => ?_ | refine egrd_dec (fun _ => ?_) fun _ => ?_))
            all_goals first | exact ⟨hx.set (Nat.le_refl _) _, rfl⟩ | (exfalso; omega)
          · rw [if_neg (by rw [hbv]; simp [c1, c6, c7]; omega), hN, hkd]
            repeat' (first | (simp (disch := first | omega | (decide +kernel) | (repeat first | assumption | exact HExt.refl _ | refine HExt.set ?_ (by first | omega | (simp only [new_nx, set_nx]; omega)) _ | refine HExt.new ?_ _)) only [↓RD, RU, accW_t, accW_f, isW, ↓putF_get, ↓putF_none, ↓evF_t, ↓evF_c, ↓evF_f, new_nx, set_nx, new_get, set_get, getD_zero, getD_succ, u_not, pop, lop, aop, wop, resL, resV, tupleV, akV, isVal, isCell, Value.cells, ρ0, ρ1, ρ2, ρ3, ρ4, ↓reduceIte, Nat.reduceEqDiff, Nat.reduceAdd, Int.reduceOfNat, Int.reduceNegSucc, reduceCtorEq, ρ5, ρ6, ρ7, ρ8, srcR_c, src_n, src_v, src_s, bnd, lenV, capV, ρ9, ρ10, ρ11, ρ12, ρ13, ρ14, ρ15, ρ16, ρ17, ρ18, ρ19, ρ20, ρ21, ρ22, ρ23, ρ24, Kd.isRo, ρ25, ρ26, bldV, Nat.reduceLeDiff, Int.reduceMul, Int.reduceAdd, Int.reduceSub, Int.reduceToNat, maxLen_eq, zeros_one, appS_some, appV_n, appV_v, appH_t, appH_f, Kd.isEx, ρ27, partV, CH.set_set, lkV, lkR, isKey, mupV, nxtV, ρ28, ρ29, hag1, hag2, hag3, hag4, hag5, hag6, f4, f5'', f6'', f8, hNlen, str_size, str_get, h00, gN, rletter_iff, c6', c7]) | (with_reducible first | refine condK_dec (fun _ => ?_) fun _ => ?_ | refine grd_dec (fun _ => ?_) fun _ => ?_ | refine egrd_dec (fun _ => ?_) fun _ => ?_))
            all_goals first | exact ⟨hx.set (Nat.le_refl _) _, rfl⟩ | (exfalso; omega)
      · have h0 : hd (l.drop N) = 0 := hd_out c5
        rw [if_neg (by rw [hbv, h0]; simp [c1]; exact ⟨by decide, by omega⟩), hN, hkd]
        repeat' (first | (simp (disch := first | omega | (decide +kernel) | (repeat first | assumption | exact HExt.refl _ | refine HExt.set ?_ (by first | omega | (simp only [new_nx, set_nx]; omega)) _ | refine HExt.new ?_ _)) only [↓RD, RU, accW_t, accW_f, isW, ↓putF_get, ↓putF_none, ↓evF_t, ↓evF_c, ↓evF_f, new_nx, set_nx, new_get, set_get, getD_zero, getD_succ, u_not, pop, lop, aop, wop, resL, resV, tupleV, akV, isVal, isCell, Value.cells, ρ0, ρ1, ρ2, ρ3, ρ4, ↓reduceIte, Nat.reduceEqDiff, Nat.reduceAdd, Int.reduceOfNat, Int.reduceNegSucc, reduceCtorEq, ρ5, ρ6, ρ7, ρ8, srcR_c, src_n, src_v, src_s, bnd, lenV, capV, ρ9, ρ10, ρ11, ρ12, ρ13, ρ14, ρ15, ρ16, ρ17, ρ18, ρ19, ρ20, ρ21, ρ22, ρ23, ρ24, Kd.isRo, ρ25, ρ26, bldV, Nat.reduceLeDiff, Int.reduceMul, Int.reduceAdd, Int.reduceSub, Int.reduceToNat, maxLen_eq, zeros_one, appS_some, appV_n, appV_v, appH_t, appH_f, Kd.isEx, ρ27, partV, CH.set_set, lkV, lkR, isKey, mupV, nxtV, ρ28, ρ29, hag1, hag2, hag3, hag4, hag5, hag6, f4, f5'', f6'', f8, hNlen, str_size, str_get, h00]) | (with_reducible first | refine condK_dec (fun _ => ?_) fun _ => ?_ | refine grd_dec (fun _ => ?_) fun _ => ?_ | refine egrd_dec (fun _ => ?_) fun _ => ?_))
        all_goals first | exact ⟨hx.set (Nat.le_refl _) _, rfl⟩ | (exfalso; omega)
end Can
end Go.Proofs.Ytmglmoehlegojaa
