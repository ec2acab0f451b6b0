/- Parse, its laws: ParseLines walked. Parse, its laws: tokens as an argument. -/
import Derived.Test.YtnkfdkfmdeibfaaZn
import Derived.Test.YtnkfdkfmdeibfaaZd
import Derived.Test.YtnkfdkfmdeibfaaZi
import Derived.Test.YtnkfdkfmdeibfaaRows
section
namespace Go.Proofs.Ytnkfdkfmdeibfaa
namespace Can
open Go Go.RowKit
set_option linter.unusedSimpArgs false
set_option linter.unusedVariables false
set_option maxRecDepth 4000
theorem slat_ext {K K' : CH} {q : Option Addr} {c : Nat} {ts : List PT} (h : SlAt 3 CTk K q c ts) (hx : HExt K K') : SlAt 3 CTk K' q c ts := by
  rcases h with h | ⟨l, o, os, e, k, h0, h1, h2, h3, h4, h5, h6⟩
  · exact .inl h
  · exact .inr ⟨l, o, os, e, k, h0, Nat.lt_of_lt_of_le h1 hx.nx, h2, h3, (hx.ob l h1).trans h4, h5, h6⟩
theorem tok_ok : ∀ t : PT, (tokV t).length = 3 ∧ (tokV t).all isCell = true := fun t => ⟨rfl, rfl⟩
theorem grw_tk {A K : CH} {v : Value} {ts : List PT} (h : Grw A 25 3 tokV K v ts) (hm : ts.length ≤ 9223372036854775807) : ∃ q c, v = .slice q ts.length c ∧ SlAt 3 CTk K q c ts := by
  rcases h with ⟨rfl, rfl⟩ | ⟨b, kd, rfl, h1, h2, h3, h4⟩
  · exact ⟨none, 0, rfl, .inl ⟨rfl, rfl, .inl rfl⟩⟩
  · refine ⟨_, _, rfl, ?_⟩
    have e : ts.flatMap tokV = (ts.map tokV).flatten := by rw [List.flatMap_def]
    rw [e] at h3
    exact slat_row h2 h3 (by rw [maxLen_eq]; exact hm)
theorem same_wp (ln : Bool) {K : CH} {A B : Nat → Prop} (hA : ∀ b, A b → b < K.nx) (hB : ∀ b, B b → b < K.nx) {a b : Nd} {os os' : List Value} (h : SVRs K A (ndS a) os) (h' : SVRs K B (ndS b) os') : WpF TL 9 [.agg os.toArray, .agg os'.toArray, .bool ln] K fun v K' => HExt K K' ∧ v = .bool (sameN ln a b) := by
  obtain ⟨k, l, x, o, ks⟩ := a
  obtain ⟨k', l', x', o', ks'⟩ := b
  obtain ⟨w, _, rfl, hw, hn⟩ := nd_inv (rest := []) (by simpa using h)
  cases hn
  obtain ⟨w', _, rfl, hw', hn⟩ := nd_inv (rest := []) (by simpa using h')
  cases hn
  have r1 := nd_rel hA (k := k) (l := l) (x := x) (o := o) hw
  have r2 := nd_rel hB (k := k') (l := l') (x := x') (o := o') hw'
  refine (tc_wp (X := pX) (same_tc ln (nsz (.mk k l x o ks) + 1) k l x o ks k' l' x' o' ks' (Nat.lt_succ_self _) (fun a _ => a = rS (.bool (sameN ln (.mk k l x o ks) (.mk k' l' x' o' ks')))) _ rfl) ?_).mono fun v K' ⟨h1, a, s', h2, h3⟩ => ⟨h1, by subst h3; exact raw_rel h2 rfl⟩
  cases r1 with | cons r1 _ =>
  cases r2 with | cons r2 _ =>
  exact .cons r1 (.cons r2 (.cons (rS_rel rfl) .nil))
theorem and_1023 (a : Int) : ∃ A : Nat, A ≤ 1023 ∧ svOf (binOp .and 0 (.int .i64 a) (.int .i64 1023)) = some (.int .i64 (A : Nat)) := by
  refine ⟨(BitVec.ofInt 64 a &&& BitVec.ofInt 64 1023).toNat, ?_, ?_⟩
  · rw [BitVec.toNat_and]
    exact Nat.le_trans Nat.and_le_right (by decide)
  · rw [b_and]
    have h : (BitVec.ofInt 64 a &&& BitVec.ofInt 64 1023).toNat ≤ 1023 := by
      rw [BitVec.toNat_and]
      exact Nat.le_trans Nat.and_le_right (by decide)
    show some (Value.int .i64 (IntKind.i64.wrap _)) = _
    rw [show IntKind.bits .i64 = 64 from rfl, w_i64 (by omega) (by omega)]
def LnJ (A : CH) (k add : Int) (ts : List PT) (n : Nat) (v5 v6 : Value) (K : CH) : Prop := ∃ i : Nat, n = ts.length - i ∧ i ≤ ts.length ∧ v6 = .int .i64 (i : Nat) ∧ Grw A 25 3 tokV K v5 (lnT (k + add) (ts.take i)) ∧ HExt A K
noncomputable def linP : RCode × RCode × RCode × RCode × RCode × RCode := match (rF Try.prog 3).body with
  | .seq a (.seq b (.seq c (.seq d (.seq e f)))) => (a, b, c, d, e, f)
  | _ => (.skip, .skip, .skip, .skip, .skip, .skip)
theorem lin_body : (rF Try.prog 3).body = .seq linP.1 (.seq linP.2.1 (.seq linP.2.2.1 (.seq linP.2.2.2.1 (.seq linP.2.2.2.2.1 linP.2.2.2.2.2)))) := by kernel_rfl
theorem lines_law {H : CH} {q : Option Addr} {c : Nat} {ts : List PT} {add : Int} (h : SlAt 3 CTk H q c ts) (hlen : ts.length ≤ 4398046510976) : WpF TL 3 [.slice q ts.length c, .int .i64 add] H fun v _ => v = .bool true := by
  obtain ⟨A, hA, hand⟩ := and_1023 add
  refine wpF_rS (by rfl) (by kernel_rfl) ?_
  rw [lin_body]
  conv in (rF _ _).res => reduce
  have e : linP.1 = _ := rfl
  conv at e => rhs; reduce
  rw [e]
  clear e
  have e : linP.2.1 = _ := rfl
  conv at e => rhs; reduce
  rw [e]
  clear e
  repeat' (first | (simp (disch := first | omega | (decide +kernel) | (repeat first | assumption | exact HExt.refl _ | refine HExt.set ?_ (by first | omega | (simp only [new_nx, set_nx]; omega)) _ | refine HExt.new ?_ _)) only [↓RD, RU, accW_t, accW_f, isW, ↓putF_get, ↓putF_none, ↓evF_t, ↓evF_c, ↓evF_f, new_nx, set_nx, new_get, set_get, getD_zero, getD_succ, u_not, pop, lop, aop, wop, resL, resV, tupleV, akV, isVal, isCell, Value.cells, ρ0, ρ1, ρ2, ρ3, ρ4, ↓reduceIte, Nat.reduceEqDiff, Nat.reduceAdd, Int.reduceOfNat, Int.reduceNegSucc, reduceCtorEq, ρ5, ρ6, ρ7, ρ8, srcR_c, src_n, src_v, src_s, bnd, lenV, capV, ρ9, ρ10, ρ11, ρ12, ρ13, ρ14, ρ15, ρ16, ρ17, ρ18, ρ19, ρ20, ρ21, ρ22, ρ23, ρ24, Kd.isRo, ρ25, ρ26, bldV, Nat.reduceLeDiff, Int.reduceMul, Int.reduceAdd, Int.reduceSub, Int.reduceToNat, maxLen_eq, zeros_one, appS_some, appV_n, appV_v, appH_t, appH_f, Kd.isEx, ρ27, partV, CH.set_set, lkV, lkR, isKey, mupV, nxtV, ρ28, ρ29]) | (with_reducible first | refine condK_dec (fun _ => ?_) fun _ => ?_ | refine grd_dec (fun _ => ?_) fun _ => ?_ | refine egrd_dec (fun _ => ?_) fun _ => ?_))
  refine known_wp.mono ?_
  rintro v K ⟨hK, rfl⟩
  repeat' (first | (simp (disch := first | omega | (decide +kernel) | (repeat first | assumption | exact HExt.refl _ | refine HExt.set ?_ (by first | omega | (simp only [new_nx, set_nx]; omega)) _ | refine HExt.new ?_ _)) only [↓RD, RU, accW_t, accW_f, isW, ↓putF_get, ↓putF_none, ↓evF_t, ↓evF_c, ↓evF_f, new_nx, set_nx, new_get, set_get, getD_zero, getD_succ, u_not, pop, lop, aop, wop, resL, resV, tupleV, akV, isVal, isCell, Value.cells, ρ0, ρ1, ρ2, ρ3, ρ4, ↓reduceIte, Nat.reduceEqDiff, Nat.reduceAdd, Int.reduceOfNat, Int.reduceNegSucc, reduceCtorEq, ρ5, ρ6, ρ7, ρ8, srcR_c, src_n, src_v, src_s, bnd, lenV, capV, ρ9, ρ10, ρ11, ρ12, ρ13, ρ14, ρ15, ρ16, ρ17, ρ18, ρ19, ρ20, ρ21, ρ22, ρ23, ρ24, Kd.isRo, ρ25, ρ26, bldV, Nat.reduceLeDiff, Int.reduceMul, Int.reduceAdd, Int.reduceSub, Int.reduceToNat, maxLen_eq, zeros_one, appS_some, appV_n, appV_v, appH_t, appH_f, Kd.isEx, ρ27, partV, CH.set_set, lkV, lkR, isKey, mupV, nxtV, ρ28, ρ29]) | (with_reducible first | refine condK_dec (fun _ => ?_) fun _ => ?_ | refine grd_dec (fun _ => ?_) fun _ => ?_ | refine egrd_dec (fun _ => ?_) fun _ => ?_))
  have e : linP.2.2.1 = _ := rfl
  conv at e => rhs; reduce
  rw [e]
  clear e
  repeat' (first | (simp (disch := first | omega | (decide +kernel) | (repeat first | assumption | exact HExt.refl _ | refine HExt.set ?_ (by first | omega | (simp only [new_nx, set_nx]; omega)) _ | refine HExt.new ?_ _)) only [↓RD, RU, accW_t, accW_f, isW, ↓putF_get, ↓putF_none, ↓evF_t, ↓evF_c, ↓evF_f, new_nx, set_nx, new_get, set_get, getD_zero, getD_succ, u_not, pop, lop, aop, wop, resL, resV, tupleV, akV, isVal, isCell, Value.cells, ρ0, ρ1, ρ2, ρ3, ρ4, ↓reduceIte, Nat.reduceEqDiff, Nat.reduceAdd, Int.reduceOfNat, Int.reduceNegSucc, reduceCtorEq, ρ5, ρ6, ρ7, ρ8, srcR_c, src_n, src_v, src_s, bnd, lenV, capV, ρ9, ρ10, ρ11, ρ12, ρ13, ρ14, ρ15, ρ16, ρ17, ρ18, ρ19, ρ20, ρ21, ρ22, ρ23, ρ24, Kd.isRo, ρ25, ρ26, bldV, Nat.reduceLeDiff, Int.reduceMul, Int.reduceAdd, Int.reduceSub, Int.reduceToNat, maxLen_eq, zeros_one, appS_some, appV_n, appV_v, appH_t, appH_f, Kd.isEx, ρ27, partV, CH.set_set, lkV, lkR, isKey, mupV, nxtV, ρ28, ρ29, hand]) | (with_reducible first | refine condK_dec (fun _ => ?_) fun _ => ?_ | refine grd_dec (fun _ => ?_) fun _ => ?_ | refine egrd_dec (fun _ => ?_) fun _ => ?_))
  have e : linP.2.2.2.1 = _ := rfl
  conv at e => rhs; reduce
  rw [e]
  clear e
  have e : linP.2.2.2.2.1 = _ := rfl
  conv at e => rhs; reduce
  rw [e]
  clear e
  repeat' (first | (simp (disch := first | omega | (decide +kernel) | (repeat first | assumption | exact HExt.refl _ | refine HExt.set ?_ (by first | omega | (simp only [new_nx, set_nx]; omega)) _ | refine HExt.new ?_ _)) only [↓RD, RU, accW_t, accW_f, isW, ↓putF_get, ↓putF_none, ↓evF_t, ↓evF_c, ↓evF_f, new_nx, set_nx, new_get, set_get, getD_zero, getD_succ, u_not, pop, lop, aop, wop, resL, resV, tupleV, akV, isVal, isCell, Value.cells, ρ0, ρ1, ρ2, ρ3, ρ4, ↓reduceIte, Nat.reduceEqDiff, Nat.reduceAdd, Int.reduceOfNat, Int.reduceNegSucc, reduceCtorEq, ρ5, ρ6, ρ7, ρ8, srcR_c, src_n, src_v, src_s, bnd, lenV, capV, ρ9, ρ10, ρ11, ρ12, ρ13, ρ14, ρ15, ρ16, ρ17, ρ18, ρ19, ρ20, ρ21, ρ22, ρ23, ρ24, Kd.isRo, ρ25, ρ26, bldV, Nat.reduceLeDiff, Int.reduceMul, Int.reduceAdd, Int.reduceSub, Int.reduceToNat, maxLen_eq, zeros_one, appS_some, appV_n, appV_v, appH_t, appH_f, Kd.isEx, ρ27, partV, CH.set_set, lkV, lkR, isKey, mupV, nxtV, ρ28, ρ29]) | (with_reducible first | refine condK_dec (fun _ => ?_) fun _ => ?_ | refine grd_dec (fun _ => ?_) fun _ => ?_ | refine egrd_dec (fun _ => ?_) fun _ => ?_))
  refine loop_w (fun n fr K1 => LnJ H 1 ((A : Nat) : Int) ts n (fr 5) (fr 6) K1) (n := ts.length) ⟨0, rfl, Nat.zero_le _, by (repeat' (first | (simp (disch := first | omega | (decide +kernel) | (repeat first | assumption | exact HExt.refl _ | refine HExt.set ?_ (by first | omega | (simp only [new_nx, set_nx]; omega)) _ | refine HExt.new ?_ _)) only [↓RD, RU, accW_t, accW_f, isW, ↓putF_get, ↓putF_none, ↓evF_t, ↓evF_c, ↓evF_f, new_nx, set_nx, new_get, set_get, getD_zero, getD_succ, u_not, pop, lop, aop, wop, resL, resV, tupleV, akV, isVal, isCell, Value.cells, ρ0, ρ1, ρ2, ρ3, ρ4, ↓reduceIte, Nat.reduceEqDiff, Nat.reduceAdd, Int.reduceOfNat, Int.reduceNegSucc, reduceCtorEq, ρ5, ρ6, ρ7, ρ8, srcR_c, src_n, src_v, src_s, bnd, lenV, capV, ρ9, ρ10, ρ11, ρ12, ρ13, ρ14, ρ15, ρ16, ρ17, ρ18, ρ19, ρ20, ρ21, ρ22, ρ23, ρ24, Kd.isRo, ρ25, ρ26, bldV, Nat.reduceLeDiff, Int.reduceMul, Int.reduceAdd, Int.reduceSub, Int.reduceToNat, maxLen_eq, zeros_one, appS_some, appV_n, appV_v, appH_t, appH_f, Kd.isEx, ρ27, partV, CH.set_set, lkV, lkR, isKey, mupV, nxtV, ρ28, ρ29]) | (with_reducible first | refine condK_dec (fun _ => ?_) fun _ => ?_ | refine grd_dec (fun _ => ?_) fun _ => ?_ | refine egrd_dec (fun _ => ?_) fun _ => ?_)); all_goals rfl), .inl ⟨rfl, by repeat' (first | (simp (disch := first | omega | (decide +kernel) | (repeat first | assumption | exact HExt.refl _ | refine HExt.set ?_ (by first | omega | (simp only [new_nx, set_nx]; omega)) _ | refine HExt.new ?_ _)) only [↓RD, RU, accW_t, accW_f, isW, ↓putF_get, ↓putF_none, ↓evF_t, ↓evF_c, ↓evF_f, new_nx, set_nx, new_get, set_get, getD_zero, getD_succ, u_not, pop, lop, aop, wop, resL, resV, tupleV, akV, isVal, isCell, Value.cells, ρ0, ρ1, ρ2, ρ3, ρ4, ↓reduceIte, Nat.reduceEqDiff, Nat.reduceAdd, Int.reduceOfNat, Int.reduceNegSucc, reduceCtorEq, ρ5, ρ6, ρ7, ρ8, srcR_c, src_n, src_v, src_s, bnd, lenV, capV, ρ9, ρ10, ρ11, ρ12, ρ13, ρ14, ρ15, ρ16, ρ17, ρ18, ρ19, ρ20, ρ21, ρ22, ρ23, ρ24, Kd.isRo, ρ25, ρ26, bldV, Nat.reduceLeDiff, Int.reduceMul, Int.reduceAdd, Int.reduceSub, Int.reduceToNat, maxLen_eq, zeros_one, appS_some, appV_n, appV_v, appH_t, appH_f, Kd.isEx, ρ27, partV, CH.set_set, lkV, lkR, isKey, mupV, nxtV, ρ28, ρ29]) | (with_reducible first | refine condK_dec (fun _ => ?_) fun _ => ?_ | refine grd_dec (fun _ => ?_) fun _ => ?_ | refine egrd_dec (fun _ => ?_) fun _ => ?_))⟩, hK⟩ ?_
  rintro n fr K1 ⟨i, rfl, hi, f6, hG, hx⟩ hag
  obtain ⟨v5, f5⟩ : ∃ v, fr 5 = v := ⟨_, rfl⟩
  rw [f5] at hG
  by_cases hil : i < ts.length
  · obtain ⟨l, o, os, e, kd, hq, p1, p2, p3, p4, p5⟩ := tk_get (slat_ext h hx) hil
    have p4 : List.take 3 (List.drop (o + i * 3) os) = [.int .i64 ts[i].kind, .int .i64 ts[i].line, .string ⟨⟨ts[i].text⟩⟩] := p4
    repeat' (first | (simp (disch := first | omega | (decide +kernel) | (repeat first | assumption | exact HExt.refl _ | refine HExt.set ?_ (by first | omega | (simp only [new_nx, set_nx]; omega)) _ | refine HExt.new ?_ _)) only [↓RD, RU, accW_t, accW_f, isW, ↓putF_get, ↓putF_none, ↓evF_t, ↓evF_c, ↓evF_f, new_nx, set_nx, new_get, set_get, getD_zero, getD_succ, u_not, pop, lop, aop, wop, resL, resV, tupleV, akV, isVal, isCell, Value.cells, ρ0, ρ1, ρ2, ρ3, ρ4, ↓reduceIte, Nat.reduceEqDiff, Nat.reduceAdd, Int.reduceOfNat, Int.reduceNegSucc, reduceCtorEq, ρ5, ρ6, ρ7, ρ8, srcR_c, src_n, src_v, src_s, bnd, lenV, capV, ρ9, ρ10, ρ11, ρ12, ρ13, ρ14, ρ15, ρ16, ρ17, ρ18, ρ19, ρ20, ρ21, ρ22, ρ23, ρ24, Kd.isRo, ρ25, ρ26, bldV, Nat.reduceLeDiff, Int.reduceMul, Int.reduceAdd, Int.reduceSub, Int.reduceToNat, maxLen_eq, zeros_one, appS_some, appV_n, appV_v, appH_t, appH_f, Kd.isEx, ρ27, partV, CH.set_set, lkV, lkR, isKey, mupV, nxtV, ρ28, ρ29, hag, f5, f6, hq, p1, p3, p4, Nat.zero_mul, zeros, List.replicate, List.flatten_cons, List.flatten_nil]) | (with_reducible first | refine condK_dec (fun _ => ?_) fun _ => ?_ | refine grd_dec (fun _ => ?_) fun _ => ?_ | refine egrd_dec (fun _ => ?_) fun _ => ?_))
    refine optW_app (f := tokV) (ys := [⟨ts[i].kind, 1 + (A : Int) + (i : Nat), ts[i].text⟩]) tok_ok (hG.ext ((((HExt.refl K1).new _).set (Nat.le_refl _) _).new _)) (((hx.new _).set hx.nx _).new _) (by rw [lnT_len]; simp only [List.length_take, List.length_cons, List.length_nil]; omega) (by rw [lnT_len]; simp only [List.length_take, List.length_cons, List.length_nil]; omega) (by rw [show (i : Int) + 1 + (A : Int) = 1 + (A : Int) + (i : Nat) by omega]; rfl) rfl fun v' K' j1 j2 j3 j4 => ?_
    have e1 : lnT (1 + (A : Int)) (ts.take i) ++ [⟨ts[i].kind, 1 + (A : Int) + (i : Nat), ts[i].text⟩] = lnT (1 + (A : Int)) (ts.take (i + 1)) := by
      rw [List.take_succ_eq_append_getElem hil, lnT_app, List.length_take, Nat.min_eq_left hi]
    rw [e1] at j1
    repeat' (first | (simp (disch := first | omega | (decide +kernel) | (repeat first | assumption | exact HExt.refl _ | refine HExt.set ?_ (by first | omega | (simp only [new_nx, set_nx]; omega)) _ | refine HExt.new ?_ _)) only [↓RD, RU, accW_t, accW_f, isW, ↓putF_get, ↓putF_none, ↓evF_t, ↓evF_c, ↓evF_f, new_nx, set_nx, new_get, set_get, getD_zero, getD_succ, u_not, pop, lop, aop, wop, resL, resV, tupleV, akV, isVal, isCell, Value.cells, ρ0, ρ1, ρ2, ρ3, ρ4, ↓reduceIte, Nat.reduceEqDiff, Nat.reduceAdd, Int.reduceOfNat, Int.reduceNegSucc, reduceCtorEq, ρ5, ρ6, ρ7, ρ8, srcR_c, src_n, src_v, src_s, bnd, lenV, capV, ρ9, ρ10, ρ11, ρ12, ρ13, ρ14, ρ15, ρ16, ρ17, ρ18, ρ19, ρ20, ρ21, ρ22, ρ23, ρ24, Kd.isRo, ρ25, ρ26, bldV, Nat.reduceLeDiff, Int.reduceMul, Int.reduceAdd, Int.reduceSub, Int.reduceToNat, maxLen_eq, zeros_one, appS_some, appV_n, appV_v, appH_t, appH_f, Kd.isEx, ρ27, partV, CH.set_set, lkV, lkR, isKey, mupV, nxtV, ρ28, ρ29, hag, f5, f6]) | (with_reducible first | refine condK_dec (fun _ => ?_) fun _ => ?_ | refine grd_dec (fun _ => ?_) fun _ => ?_ | refine egrd_dec (fun _ => ?_) fun _ => ?_))
    exact ⟨ts.length - (i + 1), by omega, i + 1, rfl, hil, rfl, j1, j2⟩
  · have hil : i = ts.length := by omega
    subst hil
    rw [List.take_length] at hG
    repeat' (first | (simp (disch := first | omega | (decide +kernel) | (repeat first | assumption | exact HExt.refl _ | refine HExt.set ?_ (by first | omega | (simp only [new_nx, set_nx]; omega)) _ | refine HExt.new ?_ _)) only [↓RD, RU, accW_t, accW_f, isW, ↓putF_get, ↓putF_none, ↓evF_t, ↓evF_c, ↓evF_f, new_nx, set_nx, new_get, set_get, getD_zero, getD_succ, u_not, pop, lop, aop, wop, resL, resV, tupleV, akV, isVal, isCell, Value.cells, ρ0, ρ1, ρ2, ρ3, ρ4, ↓reduceIte, Nat.reduceEqDiff, Nat.reduceAdd, Int.reduceOfNat, Int.reduceNegSucc, reduceCtorEq, ρ5, ρ6, ρ7, ρ8, srcR_c, src_n, src_v, src_s, bnd, lenV, capV, ρ9, ρ10, ρ11, ρ12, ρ13, ρ14, ρ15, ρ16, ρ17, ρ18, ρ19, ρ20, ρ21, ρ22, ρ23, ρ24, Kd.isRo, ρ25, ρ26, bldV, Nat.reduceLeDiff, Int.reduceMul, Int.reduceAdd, Int.reduceSub, Int.reduceToNat, maxLen_eq, zeros_one, appS_some, appV_n, appV_v, appH_t, appH_f, Kd.isEx, ρ27, partV, CH.set_set, lkV, lkR, isKey, mupV, nxtV, ρ28, ρ29, hag, f5, f6]) | (with_reducible first | refine condK_dec (fun _ => ?_) fun _ => ?_ | refine grd_dec (fun _ => ?_) fun _ => ?_ | refine egrd_dec (fun _ => ?_) fun _ => ?_))
    have e : linP.2.2.2.2.2 = _ := rfl
    conv at e => rhs; reduce
    rw [e]
    clear e
    repeat' (first | (simp (disch := first | omega | (decide +kernel) | (repeat first | assumption | exact HExt.refl _ | refine HExt.set ?_ (by first | omega | (simp only [new_nx, set_nx]; omega)) _ | refine HExt.new ?_ _)) only [↓RD, RU, accW_t, accW_f, isW, ↓putF_get, ↓putF_none, ↓evF_t, ↓evF_c, ↓evF_f, new_nx, set_nx, new_get, set_get, getD_zero, getD_succ, u_not, pop, lop, aop, wop, resL, resV, tupleV, akV, isVal, isCell, Value.cells, ρ0, ρ1, ρ2, ρ3, ρ4, ↓reduceIte, Nat.reduceEqDiff, Nat.reduceAdd, Int.reduceOfNat, Int.reduceNegSucc, reduceCtorEq, ρ5, ρ6, ρ7, ρ8, srcR_c, src_n, src_v, src_s, bnd, lenV, capV, ρ9, ρ10, ρ11, ρ12, ρ13, ρ14, ρ15, ρ16, ρ17, ρ18, ρ19, ρ20, ρ21, ρ22, ρ23, ρ24, Kd.isRo, ρ25, ρ26, bldV, Nat.reduceLeDiff, Int.reduceMul, Int.reduceAdd, Int.reduceSub, Int.reduceToNat, maxLen_eq, zeros_one, appS_some, appV_n, appV_v, appH_t, appH_f, Kd.isEx, ρ27, partV, CH.set_set, lkV, lkR, isKey, mupV, nxtV, ρ28, ρ29, hag, f5, f6]) | (with_reducible first | refine condK_dec (fun _ => ?_) fun _ => ?_ | refine grd_dec (fun _ => ?_) fun _ => ?_ | refine egrd_dec (fun _ => ?_) fun _ => ?_))
    refine (parse_wp (sl := ⟨q, ts.length, c⟩) (slat_ext h hx) rfl hlen).mono ?_
    rintro v K2 ⟨vs, rfl, hx2, os, rfl, hs⟩
    obtain ⟨g1, g2, g3, g4, gq, gn, gc, rfl⟩ := nd_cells hs
    repeat' (first | (simp (disch := first | omega | (decide +kernel) | (repeat first | assumption | exact HExt.refl _ | refine HExt.set ?_ (by first | omega | (simp only [new_nx, set_nx]; omega)) _ | refine HExt.new ?_ _)) only [↓RD, RU, accW_t, accW_f, isW, ↓putF_get, ↓putF_none, ↓evF_t, ↓evF_c, ↓evF_f, new_nx, set_nx, new_get, set_get, getD_zero, getD_succ, u_not, pop, lop, aop, wop, resL, resV, tupleV, akV, isVal, isCell, Value.cells, ρ0, ρ1, ρ2, ρ3, ρ4, ↓reduceIte, Nat.reduceEqDiff, Nat.reduceAdd, Int.reduceOfNat, Int.reduceNegSucc, reduceCtorEq, ρ5, ρ6, ρ7, ρ8, srcR_c, src_n, src_v, src_s, bnd, lenV, capV, ρ9, ρ10, ρ11, ρ12, ρ13, ρ14, ρ15, ρ16, ρ17, ρ18, ρ19, ρ20, ρ21, ρ22, ρ23, ρ24, Kd.isRo, ρ25, ρ26, bldV, Nat.reduceLeDiff, Int.reduceMul, Int.reduceAdd, Int.reduceSub, Int.reduceToNat, maxLen_eq, zeros_one, appS_some, appV_n, appV_v, appH_t, appH_f, Kd.isEx, ρ27, partV, CH.set_set, lkV, lkR, isKey, mupV, nxtV, ρ28, ρ29, hag, f5, f6]) | (with_reducible first | refine condK_dec (fun _ => ?_) fun _ => ?_ | refine grd_dec (fun _ => ?_) fun _ => ?_ | refine egrd_dec (fun _ => ?_) fun _ => ?_))
    obtain ⟨q', c', rfl, hu⟩ := grw_tk (hG.ext hx2) (by rw [lnT_len]; omega)
    rw [lnT_len]
    have hn5 : K2.nx < K2.nx + 1 := Nat.lt_succ_self _
    have hnew : ∀ o o' : CObj, HExt K2 ((K2.new o).set K2.nx o') := fun o o' => ((HExt.refl K2).new _).set (Nat.le_refl _) _
    refine (parse_wp (sl := ⟨q', ts.length, c'⟩) (slat_ext hu (hnew _ _)) (lnT_len _ _).symm (by rw [lnT_len]; exact hlen)).mono ?_
    rintro v K3 ⟨vs, rfl, hx3, os, rfl, hs3⟩
    obtain ⟨i1, i2, i3, i4, iq, jn, jc, rfl⟩ := nd_cells hs3
    have o1 := hx3.ob K2.nx (by simp only [set_nx, new_nx]; omega)
    rw [set_get, if_pos rfl] at o1
    have hn6 : K2.nx + 1 ≤ K3.nx := by have := hx3.nx; simpa only [set_nx, new_nx] using this
    have hne : K2.nx ≠ K3.nx := by omega
    have t1 : SVRs ((K3.new (.cells [.int .i64 0, .int .i64 0, .string ⟨⟨[]⟩⟩, .int .i64 0, .slice none 0 0] 28 .ex)).set K3.nx (.cells [.int .i64 i1, .int .i64 i2, .string i3, .int .i64 i4, .slice iq jn jc] 28 .ex)) (fun b => b < K2.nx) (ndS (parseT ts).1) [.int .i64 g1, .int .i64 g2, .string g3, .int .i64 g4, .slice gq gn gc] := hs.mv fun b hb => ⟨hb.2, by
      rw [set_get, if_neg (by omega), new_ne (by omega), hx3.ob b (by simp only [set_nx, new_nx]; omega), set_get, if_neg (by omega), new_ne (by omega)]⟩
    have t2 : SVRs ((K3.new (.cells [.int .i64 0, .int .i64 0, .string ⟨⟨[]⟩⟩, .int .i64 0, .slice none 0 0] 28 .ex)).set K3.nx (.cells [.int .i64 i1, .int .i64 i2, .string i3, .int .i64 i4, .slice iq jn jc] 28 .ex)) (fun b => b < K3.nx) (ndS (parseT (lnT (1 + A) ts)).1) [.int .i64 i1, .int .i64 i2, .string i3, .int .i64 i4, .slice iq jn jc] := hs3.mv fun b hb => ⟨hb.2, by
      rw [set_get, if_neg (by omega), new_ne (by omega)]⟩
    have hsm := same_wp false (fun b hb => by simp only [set_nx, new_nx]; omega) (fun b hb => by simp only [set_nx, new_nx]; omega) t1 t2
    rcases parse_lines (1 + A) ts with ⟨h0, e, p1, p2⟩ | ⟨ta, tb, er, p1, p2, p3, p4⟩
    · have hsn : sameN false (parseT ts).1 (parseT (lnT (1 + A) ts)).1 = true := by rw [p1, p2]; rfl
      have hl3 := (lnT_now (k := 1 + (A : Int)) (ts := ts) (i := e)).2.2.1 h0
      rw [hsn] at hsm
      rw [p1, p2]
      generalize (nowT (lnT (1 + (A : Int)) ts) e).line = w at hl3
      repeat' (first | (simp (disch := first | omega | (decide +kernel) | (repeat first | assumption | exact HExt.refl _ | refine HExt.set ?_ (by first | omega | (simp only [new_nx, set_nx]; omega)) _ | refine HExt.new ?_ _)) only [↓RD, RU, accW_t, accW_f, isW, ↓putF_get, ↓putF_none, ↓evF_t, ↓evF_c, ↓evF_f, new_nx, set_nx, new_get, set_get, getD_zero, getD_succ, u_not, pop, lop, aop, wop, resL, resV, tupleV, akV, isVal, isCell, Value.cells, ρ0, ρ1, ρ2, ρ3, ρ4, ↓reduceIte, Nat.reduceEqDiff, Nat.reduceAdd, Int.reduceOfNat, Int.reduceNegSucc, reduceCtorEq, ρ5, ρ6, ρ7, ρ8, srcR_c, src_n, src_v, src_s, bnd, lenV, capV, ρ9, ρ10, ρ11, ρ12, ρ13, ρ14, ρ15, ρ16, ρ17, ρ18, ρ19, ρ20, ρ21, ρ22, ρ23, ρ24, Kd.isRo, ρ25, ρ26, bldV, Nat.reduceLeDiff, Int.reduceMul, Int.reduceAdd, Int.reduceSub, Int.reduceToNat, maxLen_eq, zeros_one, appS_some, appV_n, appV_v, appH_t, appH_f, Kd.isEx, ρ27, partV, CH.set_set, lkV, lkR, isKey, mupV, nxtV, ρ28, ρ29, hag, o1, hne]) | (with_reducible first | refine condK_dec (fun _ => ?_) fun _ => ?_ | refine grd_dec (fun _ => ?_) fun _ => ?_ | refine egrd_dec (fun _ => ?_) fun _ => ?_))
      refine hsm.mono ?_
      rintro v K4 ⟨hx4, rfl⟩
      have l1 : decide (1 + (A : Int) ≤ w) = true := decide_eq_true hl3.1
      have l2 : decide (w ≤ (ts.length : Int) + (A : Int)) = true := decide_eq_true (by omega)
      repeat' (first | (simp (disch := first | omega | (decide +kernel) | (repeat first | assumption | exact HExt.refl _ | refine HExt.set ?_ (by first | omega | (simp only [new_nx, set_nx]; omega)) _ | refine HExt.new ?_ _)) only [↓RD, RU, accW_t, accW_f, isW, ↓putF_get, ↓putF_none, ↓evF_t, ↓evF_c, ↓evF_f, new_nx, set_nx, new_get, set_get, getD_zero, getD_succ, u_not, pop, lop, aop, wop, resL, resV, tupleV, akV, isVal, isCell, Value.cells, ρ0, ρ1, ρ2, ρ3, ρ4, ↓reduceIte, Nat.reduceEqDiff, Nat.reduceAdd, Int.reduceOfNat, Int.reduceNegSucc, reduceCtorEq, ρ5, ρ6, ρ7, ρ8, srcR_c, src_n, src_v, src_s, bnd, lenV, capV, ρ9, ρ10, ρ11, ρ12, ρ13, ρ14, ρ15, ρ16, ρ17, ρ18, ρ19, ρ20, ρ21, ρ22, ρ23, ρ24, Kd.isRo, ρ25, ρ26, bldV, Nat.reduceLeDiff, Int.reduceMul, Int.reduceAdd, Int.reduceSub, Int.reduceToNat, maxLen_eq, zeros_one, appS_some, appV_n, appV_v, appH_t, appH_f, Kd.isEx, ρ27, partV, CH.set_set, lkV, lkR, isKey, mupV, nxtV, ρ28, ρ29, hag, o1, hne, l1, l2]) | (with_reducible first | refine condK_dec (fun _ => ?_) fun _ => ?_ | refine grd_dec (fun _ => ?_) fun _ => ?_ | refine egrd_dec (fun _ => ?_) fun _ => ?_))
    · have hsn : sameN false (parseT ts).1 (parseT (lnT (1 + A) ts)).1 = true := by rw [p1, p2]; exact p3.same
      rw [hsn] at hsm
      rw [p1, p2]
      repeat' (first | (simp (disch := first | omega | (decide +kernel) | (repeat first | assumption | exact HExt.refl _ | refine HExt.set ?_ (by first | omega | (simp only [new_nx, set_nx]; omega)) _ | refine HExt.new ?_ _)) only [↓RD, RU, accW_t, accW_f, isW, ↓putF_get, ↓putF_none, ↓evF_t, ↓evF_c, ↓evF_f, new_nx, set_nx, new_get, set_get, getD_zero, getD_succ, u_not, pop, lop, aop, wop, resL, resV, tupleV, akV, isVal, isCell, Value.cells, ρ0, ρ1, ρ2, ρ3, ρ4, ↓reduceIte, Nat.reduceEqDiff, Nat.reduceAdd, Int.reduceOfNat, Int.reduceNegSucc, reduceCtorEq, ρ5, ρ6, ρ7, ρ8, srcR_c, src_n, src_v, src_s, bnd, lenV, capV, ρ9, ρ10, ρ11, ρ12, ρ13, ρ14, ρ15, ρ16, ρ17, ρ18, ρ19, ρ20, ρ21, ρ22, ρ23, ρ24, Kd.isRo, ρ25, ρ26, bldV, Nat.reduceLeDiff, Int.reduceMul, Int.reduceAdd, Int.reduceSub, Int.reduceToNat, maxLen_eq, zeros_one, appS_some, appV_n, appV_v, appH_t, appH_f, Kd.isEx, ρ27, partV, CH.set_set, lkV, lkR, isKey, mupV, nxtV, ρ28, ρ29, hag, o1, hne]) | (with_reducible first | refine condK_dec (fun _ => ?_) fun _ => ?_ | refine grd_dec (fun _ => ?_) fun _ => ?_ | refine egrd_dec (fun _ => ?_) fun _ => ?_))
      refine hsm.mono ?_
      rintro v K4 ⟨hx4, rfl⟩
      rcases p4 with rfl | rfl
      · repeat' (first | (simp (disch := first | omega | (decide +kernel) | (repeat first | assumption | exact HExt.refl _ | refine HExt.set ?_ (by first | omega | (simp only [new_nx, set_nx]; omega)) _ | refine HExt.new ?_ _)) only [↓RD, RU, accW_t, accW_f, isW, ↓putF_get, ↓putF_none, ↓evF_t, ↓evF_c, ↓evF_f, new_nx, set_nx, new_get, set_get, getD_zero, getD_succ, u_not, pop, lop, aop, wop, resL, resV, tupleV, akV, isVal, isCell, Value.cells, ρ0, ρ1, ρ2, ρ3, ρ4, ↓reduceIte, Nat.reduceEqDiff, Nat.reduceAdd, Int.reduceOfNat, Int.reduceNegSucc, reduceCtorEq, ρ5, ρ6, ρ7, ρ8, srcR_c, src_n, src_v, src_s, bnd, lenV, capV, ρ9, ρ10, ρ11, ρ12, ρ13, ρ14, ρ15, ρ16, ρ17, ρ18, ρ19, ρ20, ρ21, ρ22, ρ23, ρ24, Kd.isRo, ρ25, ρ26, bldV, Nat.reduceLeDiff, Int.reduceMul, Int.reduceAdd, Int.reduceSub, Int.reduceToNat, maxLen_eq, zeros_one, appS_some, appV_n, appV_v, appH_t, appH_f, Kd.isEx, ρ27, partV, CH.set_set, lkV, lkR, isKey, mupV, nxtV, ρ28, ρ29, hag, o1, hne]) | (with_reducible first | refine condK_dec (fun _ => ?_) fun _ => ?_ | refine grd_dec (fun _ => ?_) fun _ => ?_ | refine egrd_dec (fun _ => ?_) fun _ => ?_))
      · repeat' (first | (simp (disch := first | omega | (decide +kernel) | (repeat first | assumption | exact HExt.refl _ | refine HExt.set ?_ (by first | omega | (simp only [new_nx, set_nx]; omega)) _ | refine HExt.new ?_ _)) only [↓RD, RU, accW_t, accW_f, isW, ↓putF_get, ↓putF_none, ↓evF_t, ↓evF_c, ↓evF_f, new_nx, set_nx, new_get, set_get, getD_zero, getD_succ, u_not, pop, lop, aop, wop, resL, resV, tupleV, akV, isVal, isCell, Value.cells, ρ0, ρ1, ρ2, ρ3, ρ4, ↓reduceIte, Nat.reduceEqDiff, Nat.reduceAdd, Int.reduceOfNat, Int.reduceNegSucc, reduceCtorEq, ρ5, ρ6, ρ7, ρ8, srcR_c, src_n, src_v, src_s, bnd, lenV, capV, ρ9, ρ10, ρ11, ρ12, ρ13, ρ14, ρ15, ρ16, ρ17, ρ18, ρ19, ρ20, ρ21, ρ22, ρ23, ρ24, Kd.isRo, ρ25, ρ26, bldV, Nat.reduceLeDiff, Int.reduceMul, Int.reduceAdd, Int.reduceSub, Int.reduceToNat, maxLen_eq, zeros_one, appS_some, appV_n, appV_v, appH_t, appH_f, Kd.isEx, ρ27, partV, CH.set_set, lkV, lkR, isKey, mupV, nxtV, ρ28, ρ29, hag, o1, hne]) | (with_reducible first | refine condK_dec (fun _ => ?_) fun _ => ?_ | refine grd_dec (fun _ => ?_) fun _ => ?_ | refine egrd_dec (fun _ => ?_) fun _ => ?_))
end Can
end Go.Proofs.Ytnkfdkfmdeibfaa
end
section
namespace Go.Proofs.Ytnkfdkfmdeibfaa
namespace Can
open Go Go.RowKit
set_option linter.unusedSimpArgs false
set_option linter.unusedVariables false
variable {H : Type} {enc : TypeId × Value → H} {w : World} {base : Nat} {spare : Nat → Bool} {held : Bool}
theorem co_tok : CO Rows.uptoBulk enc Try.prog w base spare held 25 3 CTk (fun _ => True) (fun _ => 1) := by
  refine (co_struct bulk_ok Try.underlying25 (by kernel_rfl) (co_cons rfl (by kernel_rfl) (co_int bulk_ok Try.underlying3) (co_cons rfl (by kernel_rfl) (co_int bulk_ok Try.underlying3) (co_cons rfl (by kernel_rfl) (co_string bulk_ok Try.underlying9) co_nil)))).map
    (fun x => (⟨x.1, x.2.1, x.2.2.1.data.toList⟩ : PT)) ?_ (fun _ _ => trivial) ?_
  · rintro K cs x ⟨⟨a0, b0⟩, ⟨a1, b1⟩, ⟨a2, b2⟩, a8⟩
    show cs = _
    rw [split1 a0, split1 a1, split1 a2]
    have a8' : (List.drop 1 (List.drop 1 (List.drop 1 cs))) = [] := a8
    rw [a8']
    rfl
  · intro x; omega
theorem tok_reach {n : Nat} (h : n * Try.prog.bytesOf 25 ≤ reachBytes) : n ≤ 4398046510976 := by
  have e : Try.prog.bytesOf 25 = 32 := by kernel_rfl
  have e2 : reachBytes = 140737488351232 := rfl
  rw [e, e2] at h
  omega
end Can
end Go.Proofs.Ytnkfdkfmdeibfaa
end
