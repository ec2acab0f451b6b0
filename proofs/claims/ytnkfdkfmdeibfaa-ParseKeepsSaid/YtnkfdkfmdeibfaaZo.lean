/- Parse, its laws: trees in memory, copied. Parse, its laws: trees in memory, marked. Parse, its laws: tokens copied behind an empty row with room; the document's Same of tokens. -/
import Derived.Test.YtnkfdkfmdeibfaaZn
section
namespace Go.Proofs.Ytnkfdkfmdeibfaa
namespace Can
open Go Go.RowKit
set_option linter.unusedSimpArgs false
set_option linter.unusedVariables false
set_option maxRecDepth 4000
theorem ndsS_all {ks : List Nd} : ∀ g ∈ ndsS ks, g.length = 5 := by
  induction ks with
  | nil => intro g hg; cases hg
  | cons n ks ih =>
    intro g hg
    rcases List.mem_cons.1 hg with rfl | hg
    · exact ndS_len
    · exact ih g hg
theorem svrs_grp {K : CH} {A : Nat → Prop} {ks : List Nd} {os : List Value} (h : SVRs K A (ndsS ks).flatten os) : os.length = ks.length * 5 ∧ ∀ i t, ks[i]? = some t → i * 5 + 5 ≤ os.length ∧ SVRs K A (ndS t) ((os.drop (i * 5)).take 5) := by
  have hl : os.length = ks.length * 5 := by rw [h.r2.len, flat_len' ndsS_all, ndsS_len]
  refine ⟨hl, fun i t ht => ?_⟩
  have h1 := flat_grp (ndsS_all (ks := ks)) (ndsS_get ht)
  rw [ndS_len] at h1
  have := (h.r2.drop (i * 5)).take 5
  rw [h1.1] at this
  exact ⟨by obtain ⟨hi, _⟩ := List.getElem?_eq_some_iff.1 ht; omega, this.svrs⟩
theorem row_at {K : CH} {A : Nat → Prop} {ks : List Nd} {w : Value} (h : SVR K A (.row 5 (ndsS ks)) w) : ∃ q, w = .slice q ks.length ks.length ∧ ks.length ≤ maxLen ∧ (ks = [] → q = none) ∧ ∀ i t, ks[i]? = some t → ∃ b cs e kd, q = some ⟨b, 0, none⟩ ∧ A b ∧ K.ob b = .cells cs e kd ∧ kd.isRo = false ∧ cs.length = ks.length * 5 ∧ i * 5 + 5 ≤ cs.length ∧ SVRs K A (ndS t) ((cs.drop (i * 5)).take 5) := by
  have hl : (ndsS ks).length = ks.length := ndsS_len
  generalize hg : ndsS ks = gs at h hl
  cases h with
  | row0 =>
    have : ks = [] := List.length_eq_zero_iff.1 (by simpa using hl.symm)
    subst this
    exact ⟨none, rfl, Nat.zero_le _, fun _ => rfl, fun i t h => by simp at h⟩
  | row hne hb ho hk hg' hs =>
    rw [hl]
    refine ⟨_, rfl, by rw [← hl]; exact hne.2, fun e => ?_, fun i t ht => ?_⟩
    · subst e; exact absurd (by rw [← hg]; rfl) hne.1
    · rw [← hg] at hs
      obtain ⟨h1, h2⟩ := svrs_grp hs
      exact ⟨_, _, _, _, rfl, hb, ho, hk, h1, (h2 i t ht).1, (h2 i t ht).2⟩
structure NC where
  k : Int
  l : Int
  x : ByteArray
  o : Int
  a : Option Addr
  n : Nat
  c : Nat
def ncV (c : NC) : List Value := [.int .i64 c.k, .int .i64 c.l, .string c.x, .int .i64 c.o, .slice c.a c.n c.c]
theorem ncV_ok : ∀ x : NC, (ncV x).length = 5 ∧ (ncV x).all isCell = true := fun x => ⟨rfl, rfl⟩
theorem nd_nc {K : CH} {A : Nat → Prop} {t : Nd} {os : List Value} (h : SVRs K A (ndS t) os) : ∃ c, os = ncV c := by
  obtain ⟨k, l, x, o, wa, wn, wc, rfl⟩ := nd_cells h
  exact ⟨⟨k, l, x, o, wa, wn, wc⟩, rfl⟩
theorem optW_one {α : Type} {A K : CH} {e sz bytes : Nat} {f : α → List Value} (hf : ∀ x, (f x).length = sz ∧ (f x).all isCell = true) {v : Value} {xs : List α} {y : α} (hg : Grw A e sz f K v xs) (hb : (xs.length + 1) * bytes ≤ 140737488355328) (hm : xs.length + 1 ≤ 9223372036854775807) {us : List Value} (hu : us = f y)
    {Q : Value → CH → Prop} (k : ∀ K', K'.ob K.nx = .cells ((xs ++ [y]).flatMap f) e .gr → K'.nx = K.nx + 1 → (∀ l, l < K.nx → (∀ o n c, v ≠ .slice (some ⟨l, o, none⟩) n c) → K'.ob l = K.ob l) → Q (.slice (some ⟨K.nx, 0, none⟩) (xs.length + 1) (xs.length + 1)) K') : optW (appV e sz bytes v us 1 K) Q := by
  subst hu
  have hall := (hf y).2
  rcases hg with ⟨rfl, rfl⟩ | ⟨b, kd, rfl, h1, h2, h3, hkd⟩
  · simp only [appV, Nat.one_ne_zero, if_false]
    rw [if_pos ⟨hall, by simpa using hb, by rw [maxLen_eq]; omega⟩]
    exact k _ (by simp [new_get]) rfl fun l hl _ => by rw [new_get, if_neg (by omega)]
  · have hlen : (xs.flatMap f).length = xs.length * sz := flat_len (fun x => (hf x).1) xs
    have hnx : ∀ o, (appH (kd.isEx && decide (xs.length < xs.length + 1)) K b o).nx = K.nx + 1 := fun o => by unfold appH; split <;> rfl
    have hat : ∀ o, (appH (kd.isEx && decide (xs.length < xs.length + 1)) K b o).ob K.nx = o := fun o => by
      unfold appH; split <;> (simp only [CH.new, CH.set]; simp)
    have hot : ∀ o l, l < K.nx → l ≠ b → (appH (kd.isEx && decide (xs.length < xs.length + 1)) K b o).ob l = K.ob l := fun o l hl hb => by
      unfold appH
      split
      · rw [new_get, if_neg (by omega)]
      · rw [new_get, if_neg (by show l ≠ K.nx; omega), set_get, if_neg hb]
    simp only [appV, h3, Nat.one_ne_zero, if_false]
    rw [if_pos ⟨trivial, trivial, hkd, by rw [hlen]; exact Nat.le_refl _, hall, hb, by rw [maxLen_eq]; exact hm⟩]
    refine k _ ?_ (hnx _) fun l hl hne => hot _ l hl ?_
    · rw [hat, ← hlen, List.take_length, List.flatMap_append]
      simp
    · rintro rfl
      exact hne _ _ _ rfl
def CpJ (K K2 : CH) (k : Nat) (l : Int) (x : List UInt8) (o : Nat) (ks : List Nd) (n : Nat) (v4 : Value) (K1 : CH) : Prop := ∃ (i : Nat) (v : Value) (acc : List NC), n = ks.length - i ∧ i ≤ ks.length ∧ v4 = .int .i64 (i : Nat) ∧ K1.ob K.nx = .cells [.int .i64 (k : Nat), .int .i64 l, .string ⟨⟨x⟩⟩, .int .i64 (o : Nat), v] 28 .ex ∧ K1.ob (K.nx + 1) = .cells [.int .i64 0, .int .i64 0, .string ⟨⟨[]⟩⟩, .int .i64 0, .slice none 0 0] 28 .ex ∧ K.nx + 2 ≤ K1.nx ∧ HExt K K1 ∧ acc.length = i ∧ (i = 0 → v = .slice none 0 0) ∧ Grw K2 28 5 ncV K1 v acc ∧
  SVRs K1 (fun b => K.nx + 2 ≤ b ∧ b < K1.nx ∧ ∀ o n c, v ≠ .slice (some ⟨b, o, none⟩) n c) (ndsS (ks.take i)).flatten (acc.flatMap ncV)
def CpQ (K : CH) (t : Nd) (v : Value) (K' : CH) : Prop := HExt K K' ∧ ∃ os, v = .agg os.toArray ∧ SVRs K' (fun b => K.nx ≤ b ∧ b < K'.nx) (ndS t) os
set_option maxHeartbeats 1000000 in
theorem copy_wp : ∀ (N B : Nat) (t : Nd), nsz t < N → kdN B t → B + 16 ≤ 4398046511104 → ∀ (K : CH) (A : Nat → Prop) (os : List Value), (∀ b, A b → b < K.nx) → SVRs K A (ndS t) os → WpF TL 11 [.agg os.toArray] K fun v K' => CpQ K t v K' := by
  intro N
  induction N with
  | zero => intro B t h; exact absurd h (Nat.not_lt_zero _)
  | succ N ih =>
  rintro B ⟨k, l, x, o, ks⟩ hN hB hBm K A os hA hs
  obtain ⟨w, _, rfl, hw, hn⟩ := nd_inv (rest := []) (by simpa using hs)
  cases hn
  obtain ⟨q, rfl, hml, hq0, hq⟩ := row_at hw
  refine wpF_rS (by rfl) (by kernel_rfl) ?_
  conv in (rF _ _).body => reduce
  conv in (rF _ _).res => reduce
  repeat' (first | (simp (disch := first | omega | (decide +kernel) | (repeat first | assumption | exact HExt.refl _ | refine HExt.set ?_ (by first | omega | (simp only [new_nx, set_nx]; omega)) _ | refine HExt.new ?_ _)) only [↓RD, RU, accW_t, accW_f, isW, ↓putF_get, ↓putF_none, ↓evF_t, ↓evF_c, ↓evF_f, new_nx, set_nx, new_get, set_get, getD_zero, getD_succ, u_not, pop, lop, aop, wop, resL, resV, tupleV, akV, isVal, isCell, Value.cells, ρ0, ρ1, ρ2, ρ3, ρ4, ↓reduceIte, Nat.reduceEqDiff, Nat.reduceAdd, Int.reduceOfNat, Int.reduceNegSucc, reduceCtorEq, ρ5, ρ6, ρ7, ρ8, srcR_c, src_n, src_v, src_s, bnd, lenV, capV, ρ9, ρ10, ρ11, ρ12, ρ13, ρ14, ρ15, ρ16, ρ17, ρ18, ρ19, ρ20, ρ21, ρ22, ρ23, ρ24, Kd.isRo, ρ25, ρ26, bldV, Nat.reduceLeDiff, Int.reduceMul, Int.reduceAdd, Int.reduceSub, Int.reduceToNat, maxLen_eq, zeros_one, appS_some, appV_n, appV_v, appH_t, appH_f, Kd.isEx, ρ27, partV, CH.set_set, lkV, lkR, isKey, mupV, nxtV, ρ28, ρ29]) | (with_reducible first | refine condK_dec (fun _ => ?_) fun _ => ?_ | refine grd_dec (fun _ => ?_) fun _ => ?_ | refine egrd_dec (fun _ => ?_) fun _ => ?_))
  refine loop_w (fun n fr K1 => CpJ K ((K.new (.cells [.int .i64 0] 28 .ex)).new (.cells [.int .i64 0] 28 .ex)) k l x o ks n (fr 4) K1) (n := ks.length) ⟨0, .slice none 0 0, [], rfl, Nat.zero_le _, by (repeat' (first | (simp (disch := first | omega | (decide +kernel) | (repeat first | assumption | exact HExt.refl _ | refine HExt.set ?_ (by first | omega | (simp only [new_nx, set_nx]; omega)) _ | refine HExt.new ?_ _)) only [↓RD, RU, accW_t, accW_f, isW, ↓putF_get, ↓putF_none, ↓evF_t, ↓evF_c, ↓evF_f, new_nx, set_nx, new_get, set_get, getD_zero, getD_succ, u_not, pop, lop, aop, wop, resL, resV, tupleV, akV, isVal, isCell, Value.cells, ρ0, ρ1, ρ2, ρ3, ρ4, ↓reduceIte, Nat.reduceEqDiff, Nat.reduceAdd, Int.reduceOfNat, Int.reduceNegSucc, reduceCtorEq, ρ5, ρ6, ρ7, ρ8, srcR_c, src_n, src_v, src_s, bnd, lenV, capV, ρ9, ρ10, ρ11, ρ12, ρ13, ρ14, ρ15, ρ16, ρ17, ρ18, ρ19, ρ20, ρ21, ρ22, ρ23, ρ24, Kd.isRo, ρ25, ρ26, bldV, Nat.reduceLeDiff, Int.reduceMul, Int.reduceAdd, Int.reduceSub, Int.reduceToNat, maxLen_eq, zeros_one, appS_some, appV_n, appV_v, appH_t, appH_f, Kd.isEx, ρ27, partV, CH.set_set, lkV, lkR, isKey, mupV, nxtV, ρ28, ρ29]) | (with_reducible first | refine condK_dec (fun _ => ?_) fun _ => ?_ | refine grd_dec (fun _ => ?_) fun _ => ?_ | refine egrd_dec (fun _ => ?_) fun _ => ?_)); all_goals rfl), by repeat' (first | (simp (disch := first | omega | (decide +kernel) | (repeat first | assumption | exact HExt.refl _ | refine HExt.set ?_ (by first | omega | (simp only [new_nx, set_nx]; omega)) _ | refine HExt.new ?_ _)) only [↓RD, RU, accW_t, accW_f, isW, ↓putF_get, ↓putF_none, ↓evF_t, ↓evF_c, ↓evF_f, new_nx, set_nx, new_get, set_get, getD_zero, getD_succ, u_not, pop, lop, aop, wop, resL, resV, tupleV, akV, isVal, isCell, Value.cells, ρ0, ρ1, ρ2, ρ3, ρ4, ↓reduceIte, Nat.reduceEqDiff, Nat.reduceAdd, Int.reduceOfNat, Int.reduceNegSucc, reduceCtorEq, ρ5, ρ6, ρ7, ρ8, srcR_c, src_n, src_v, src_s, bnd, lenV, capV, ρ9, ρ10, ρ11, ρ12, ρ13, ρ14, ρ15, ρ16, ρ17, ρ18, ρ19, ρ20, ρ21, ρ22, ρ23, ρ24, Kd.isRo, ρ25, ρ26, bldV, Nat.reduceLeDiff, Int.reduceMul, Int.reduceAdd, Int.reduceSub, Int.reduceToNat, maxLen_eq, zeros_one, appS_some, appV_n, appV_v, appH_t, appH_f, Kd.isEx, ρ27, partV, CH.set_set, lkV, lkR, isKey, mupV, nxtV, ρ28, ρ29]) | (with_reducible first | refine condK_dec (fun _ => ?_) fun _ => ?_ | refine grd_dec (fun _ => ?_) fun _ => ?_ | refine egrd_dec (fun _ => ?_) fun _ => ?_)), by repeat' (first | (simp (disch := first | omega | (decide +kernel) | (repeat first | assumption | exact HExt.refl _ | refine HExt.set ?_ (by first | omega | (simp only [new_nx, set_nx]; omega)) _ | refine HExt.new ?_ _)) only [↓RD, RU, accW_t, accW_f, isW, ↓putF_get, ↓putF_none, ↓evF_t, ↓evF_c, ↓evF_f, new_nx, set_nx, new_get, set_get, getD_zero, getD_succ, u_not, pop, lop, aop, wop, resL, resV, tupleV, akV, isVal, isCell, Value.cells, ρ0, ρ1, ρ2, ρ3, ρ4, ↓reduceIte, Nat.reduceEqDiff, Nat.reduceAdd, Int.reduceOfNat, Int.reduceNegSucc, reduceCtorEq, ρ5, ρ6, ρ7, ρ8, srcR_c, src_n, src_v, src_s, bnd, lenV, capV, ρ9, ρ10, ρ11, ρ12, ρ13, ρ14, ρ15, ρ16, ρ17, ρ18, ρ19, ρ20, ρ21, ρ22, ρ23, ρ24, Kd.isRo, ρ25, ρ26, bldV, Nat.reduceLeDiff, Int.reduceMul, Int.reduceAdd, Int.reduceSub, Int.reduceToNat, maxLen_eq, zeros_one, appS_some, appV_n, appV_v, appH_t, appH_f, Kd.isEx, ρ27, partV, CH.set_set, lkV, lkR, isKey, mupV, nxtV, ρ28, ρ29]) | (with_reducible first | refine condK_dec (fun _ => ?_) fun _ => ?_ | refine grd_dec (fun _ => ?_) fun _ => ?_ | refine egrd_dec (fun _ => ?_) fun _ => ?_)), by repeat' (first | (simp (disch := first | omega | (decide +kernel) | (repeat first | assumption | exact HExt.refl _ | refine HExt.set ?_ (by first | omega | (simp only [new_nx, set_nx]; omega)) _ | refine HExt.new ?_ _)) only [↓RD, RU, accW_t, accW_f, isW, ↓putF_get, ↓putF_none, ↓evF_t, ↓evF_c, ↓evF_f, new_nx, set_nx, new_get, set_get, getD_zero, getD_succ, u_not, pop, lop, aop, wop, resL, resV, tupleV, akV, isVal, isCell, Value.cells, ρ0, ρ1, ρ2, ρ3, ρ4, ↓reduceIte, Nat.reduceEqDiff, Nat.reduceAdd, Int.reduceOfNat, Int.reduceNegSucc, reduceCtorEq, ρ5, ρ6, ρ7, ρ8, srcR_c, src_n, src_v, src_s, bnd, lenV, capV, ρ9, ρ10, ρ11, ρ12, ρ13, ρ14, ρ15, ρ16, ρ17, ρ18, ρ19, ρ20, ρ21, ρ22, ρ23, ρ24, Kd.isRo, ρ25, ρ26, bldV, Nat.reduceLeDiff, Int.reduceMul, Int.reduceAdd, Int.reduceSub, Int.reduceToNat, maxLen_eq, zeros_one, appS_some, appV_n, appV_v, appH_t, appH_f, Kd.isEx, ρ27, partV, CH.set_set, lkV, lkR, isKey, mupV, nxtV, ρ28, ρ29]) | (with_reducible first | refine condK_dec (fun _ => ?_) fun _ => ?_ | refine grd_dec (fun _ => ?_) fun _ => ?_ | refine egrd_dec (fun _ => ?_) fun _ => ?_)), (((HExt.refl K).new _).new _).set (Nat.le_refl _) _, rfl, fun _ => rfl, .inl ⟨rfl, rfl⟩, by simp only [List.take_zero]; exact .nil⟩ ?_
  rintro n fr K1 ⟨i, v, acc, rfl, hi, f4, o1, o2, hnx, hx, hal, hv0, hG, hS⟩ hag
  by_cases hil : i < ks.length
  · obtain ⟨t, ht⟩ : ∃ t, ks[i]? = some t := ⟨_, List.getElem?_eq_getElem hil⟩
    obtain ⟨b, cs, e, kd, hqq, hb, ob, hkd, hcl, hc5, hst⟩ := hq i t ht
    have hbK : b < K.nx := hA b hb
    have ob1 := (hx.ob b hbK).trans ob
    obtain ⟨nc, hnc⟩ := nd_nc hst
    have hnc' : List.take 5 (List.drop (i * 5) cs) = [.int .i64 nc.k, .int .i64 nc.l, .string nc.x, .int .i64 nc.o, .slice nc.a nc.n nc.c] := hnc
    have hlt := nsz_lt (List.mem_of_getElem? ht) (k := k) (l := l) (x := x) (o := o)
    have hcall := ih B t (by omega) (kd_get hB ht) hBm K1 A _ (fun b hb => Nat.lt_of_lt_of_le (hA b hb) hx.nx) (hst.mv fun b hb => ⟨hb, hx.ob b (hA b hb)⟩)
    rw [hnc] at hcall
    repeat' (first | (simp (disch := first | omega | (decide +kernel) | (repeat first | assumption | exact HExt.refl _ | refine HExt.set ?_ (by first | omega | (simp only [new_nx, set_nx]; omega)) _ | refine HExt.new ?_ _)) only [↓RD, RU, accW_t, accW_f, isW, ↓putF_get, ↓putF_none, ↓evF_t, ↓evF_c, ↓evF_f, new_nx, set_nx, new_get, set_get, getD_zero, getD_succ, u_not, pop, lop, aop, wop, resL, resV, tupleV, akV, isVal, isCell, Value.cells, ρ0, ρ1, ρ2, ρ3, ρ4, ↓reduceIte, Nat.reduceEqDiff, Nat.reduceAdd, Int.reduceOfNat, Int.reduceNegSucc, reduceCtorEq, ρ5, ρ6, ρ7, ρ8, srcR_c, src_n, src_v, src_s, bnd, lenV, capV, ρ9, ρ10, ρ11, ρ12, ρ13, ρ14, ρ15, ρ16, ρ17, ρ18, ρ19, ρ20, ρ21, ρ22, ρ23, ρ24, Kd.isRo, ρ25, ρ26, bldV, Nat.reduceLeDiff, Int.reduceMul, Int.reduceAdd, Int.reduceSub, Int.reduceToNat, maxLen_eq, zeros_one, appS_some, appV_n, appV_v, appH_t, appH_f, Kd.isEx, ρ27, partV, CH.set_set, lkV, lkR, isKey, mupV, nxtV, ρ28, ρ29, hag, f4, hqq, ob1, hnc', o1, o2, Nat.zero_add]) | (with_reducible first | refine condK_dec (fun _ => ?_) fun _ => ?_ | refine grd_dec (fun _ => ?_) fun _ => ?_ | refine egrd_dec (fun _ => ?_) fun _ => ?_))
    refine hcall.mono ?_
    rintro r K2 ⟨hx2, os2, rfl, hs2⟩
    obtain ⟨nd, rfl⟩ := nd_nc hs2
    have o1' := (hx2.ob _ (show K.nx < K1.nx by omega)).trans o1
    have o2' := (hx2.ob _ (show K.nx + 1 < K1.nx by omega)).trans o2
    repeat' (first | (simp (disch := first | omega | (decide +kernel) | (repeat first | assumption | exact HExt.refl _ | refine HExt.set ?_ (by first | omega | (simp only [new_nx, set_nx]; omega)) _ | refine HExt.new ?_ _)) only [↓RD, RU, accW_t, accW_f, isW, ↓putF_get, ↓putF_none, ↓evF_t, ↓evF_c, ↓evF_f, new_nx, set_nx, new_get, set_get, getD_zero, getD_succ, u_not, pop, lop, aop, wop, resL, resV, tupleV, akV, isVal, isCell, Value.cells, ρ0, ρ1, ρ2, ρ3, ρ4, ↓reduceIte, Nat.reduceEqDiff, Nat.reduceAdd, Int.reduceOfNat, Int.reduceNegSucc, reduceCtorEq, ρ5, ρ6, ρ7, ρ8, srcR_c, src_n, src_v, src_s, bnd, lenV, capV, ρ9, ρ10, ρ11, ρ12, ρ13, ρ14, ρ15, ρ16, ρ17, ρ18, ρ19, ρ20, ρ21, ρ22, ρ23, ρ24, Kd.isRo, ρ25, ρ26, bldV, Nat.reduceLeDiff, Int.reduceMul, Int.reduceAdd, Int.reduceSub, Int.reduceToNat, maxLen_eq, zeros_one, appS_some, appV_n, appV_v, appH_t, appH_f, Kd.isEx, ρ27, partV, CH.set_set, lkV, lkR, isKey, mupV, nxtV, ρ28, ρ29, hag, f4, hqq, ob1, hnc', o1, o2, o1', o2', Nat.zero_mul, zeros, List.replicate, List.flatten_cons, List.flatten_nil, ncV]) | (with_reducible first | refine condK_dec (fun _ => ?_) fun _ => ?_ | refine grd_dec (fun _ => ?_) fun _ => ?_ | refine egrd_dec (fun _ => ?_) fun _ => ?_))
    have hx3 := hx.trans hx2
    have hn2 := hx2.nx
    have hkl := hB.1
    have hvb : ∀ b o n c, v = .slice (some ⟨b, o, none⟩) n c → K.nx + 2 ≤ b ∧ b < K1.nx := fun b o n c e => by
      rcases hG with ⟨_, g⟩ | ⟨b', kd', g, g1, g2, _⟩
      · rw [g] at e; cases e
      · rw [g] at e; cases e; exact ⟨g1, g2⟩
    refine optW_one (A := (K.new (.cells [.int .i64 0] 28 .ex)).new (.cells [.int .i64 0] 28 .ex)) (f := ncV) (y := nd) ncV_ok ((hG.ext hx2).ext ((HExt.refl K2).new _)) (by omega) (by omega) rfl fun K3 k1 k2 k3 => ?_
    have hb3 : ∀ b, b < K2.nx → (∀ o n c, v ≠ .slice (some ⟨b, o, none⟩) n c) → K3.ob b = K2.ob b := fun b hb hv => (k3 b (Nat.lt_succ_of_lt hb) hv).trans (new_ne (by omega))
    have o13 := (hb3 K.nx (by omega) fun o n c e => by have := hvb _ _ _ _ e; omega).trans o1'
    have o23 := (hb3 (K.nx + 1) (by omega) fun o n c e => by have := hvb _ _ _ _ e; omega).trans o2'
    have hn3 : K3.nx = K2.nx + 2 := k2
    repeat' (first | (simp (disch := first | omega | (decide +kernel) | (repeat first | assumption | exact HExt.refl _ | refine HExt.set ?_ (by first | omega | (simp only [new_nx, set_nx]; omega)) _ | refine HExt.new ?_ _)) only [↓RD, RU, accW_t, accW_f, isW, ↓putF_get, ↓putF_none, ↓evF_t, ↓evF_c, ↓evF_f, new_nx, set_nx, new_get, set_get, getD_zero, getD_succ, u_not, pop, lop, aop, wop, resL, resV, tupleV, akV, isVal, isCell, Value.cells, ρ0, ρ1, ρ2, ρ3, ρ4, ↓reduceIte, Nat.reduceEqDiff, Nat.reduceAdd, Int.reduceOfNat, Int.reduceNegSucc, reduceCtorEq, ρ5, ρ6, ρ7, ρ8, srcR_c, src_n, src_v, src_s, bnd, lenV, capV, ρ9, ρ10, ρ11, ρ12, ρ13, ρ14, ρ15, ρ16, ρ17, ρ18, ρ19, ρ20, ρ21, ρ22, ρ23, ρ24, Kd.isRo, ρ25, ρ26, bldV, Nat.reduceLeDiff, Int.reduceMul, Int.reduceAdd, Int.reduceSub, Int.reduceToNat, maxLen_eq, zeros_one, appS_some, appV_n, appV_v, appH_t, appH_f, Kd.isEx, ρ27, partV, CH.set_set, lkV, lkR, isKey, mupV, nxtV, ρ28, ρ29, hag, f4, o13, o1, o1', Nat.zero_add]) | (with_reducible first | refine condK_dec (fun _ => ?_) fun _ => ?_ | refine grd_dec (fun _ => ?_) fun _ => ?_ | refine egrd_dec (fun _ => ?_) fun _ => ?_))
    have hne : ∀ b, b ≠ K.nx → ∀ o', (K3.set K.nx o').ob b = K3.ob b := fun b hb o' => by rw [set_get, if_neg hb]
    have htk : ks.take (i + 1) = ks.take i ++ [t] := by
      obtain ⟨_, e⟩ := List.getElem?_eq_some_iff.1 ht
      rw [List.take_succ_eq_append_getElem hil, e]
    refine ⟨ks.length - (i + 1), by omega, i + 1, .slice (some ⟨K2.nx + 1, 0, none⟩) (acc.length + 1) (acc.length + 1), acc ++ [nd], rfl, hil, rfl, by rw [set_get, if_pos rfl], (hne _ (by omega) _).trans o23, by rw [set_nx]; omega, ⟨by rw [set_nx]; omega, fun b hb => ?_⟩, by simp [hal], fun e => by omega, .inr ⟨K2.nx + 1, .gr, by simp, by show K.nx + 2 ≤ K2.nx + 1; omega, by rw [set_nx]; omega, (hne _ (by omega) _).trans k1, rfl⟩, ?_⟩
    · rw [hne b (by omega), hb3 b (by omega) fun o n c e => by have := hvb _ _ _ _ e; omega]
      exact hx3.ob b hb
    · rw [htk, ndsS_app, List.flatten_append, List.flatMap_append]
      refine SVRs.app (hS.mv fun b ⟨g1, g2, g3⟩ => ⟨⟨g1, by rw [set_nx]; omega, fun o n c e => by cases e; omega⟩, by rw [hne b (by omega), hb3 b (by omega) g3]; exact hx2.ob b g2⟩) ?_
      have e1 : (ndsS [t]).flatten = ndS t := by simp [ndsS]
      have e2 : [nd].flatMap ncV = ncV nd := by simp
      rw [e1, e2]
      exact hs2.mv fun b ⟨g1, g2⟩ => ⟨⟨by omega, by rw [set_nx]; omega, fun o n c e => by cases e; omega⟩, by rw [hne b (by omega), hb3 b g2 fun o n c e => by have := hvb _ _ _ _ e; omega]⟩
  · have hil : i = ks.length := by omega
    subst hil
    rw [List.take_length] at hS
    have hw : ∃ va vn vc, v = .slice va vn vc ∧ SVR K1 (fun b => K.nx + 2 ≤ b ∧ b < K1.nx) (.row 5 (ndsS ks)) v := by
      rcases hG with ⟨e, rfl⟩ | ⟨b, kd, rfl, g1, g2, g3, g4⟩
      · have : ks = [] := by rw [e] at hal; exact List.length_eq_zero_iff.1 hal.symm
        subst this
        exact ⟨_, _, _, rfl, .row0⟩
      · refine ⟨_, _, _, rfl, ?_⟩
        rw [hal]
        rcases Nat.eq_zero_or_pos ks.length with g | g
        · have := hv0 g; cases this
        · have e := SVR.row (A := fun b => K.nx + 2 ≤ b ∧ b < K1.nx) (sz := 5) (gs := ndsS ks) ⟨fun e => by rw [← ndsS_len (a := ks), e] at g; exact absurd g (Nat.lt_irrefl _), by rw [ndsS_len]; exact hml⟩ ⟨g1, g2⟩ g3 g4 ndsS_all (hS.mv fun b hb => ⟨⟨hb.1, hb.2.1⟩, rfl⟩)
          rw [ndsS_len] at e
          exact e
    obtain ⟨va, vn, vc, rfl, hw⟩ := hw
    repeat' (first | (simp (disch := first | omega | (decide +kernel) | (repeat first | assumption | exact HExt.refl _ | refine HExt.set ?_ (by first | omega | (simp only [new_nx, set_nx]; omega)) _ | refine HExt.new ?_ _)) only [↓RD, RU, accW_t, accW_f, isW, ↓putF_get, ↓putF_none, ↓evF_t, ↓evF_c, ↓evF_f, new_nx, set_nx, new_get, set_get, getD_zero, getD_succ, u_not, pop, lop, aop, wop, resL, resV, tupleV, akV, isVal, isCell, Value.cells, ρ0, ρ1, ρ2, ρ3, ρ4, ↓reduceIte, Nat.reduceEqDiff, Nat.reduceAdd, Int.reduceOfNat, Int.reduceNegSucc, reduceCtorEq, ρ5, ρ6, ρ7, ρ8, srcR_c, src_n, src_v, src_s, bnd, lenV, capV, ρ9, ρ10, ρ11, ρ12, ρ13, ρ14, ρ15, ρ16, ρ17, ρ18, ρ19, ρ20, ρ21, ρ22, ρ23, ρ24, Kd.isRo, ρ25, ρ26, bldV, Nat.reduceLeDiff, Int.reduceMul, Int.reduceAdd, Int.reduceSub, Int.reduceToNat, maxLen_eq, zeros_one, appS_some, appV_n, appV_v, appH_t, appH_f, Kd.isEx, ρ27, partV, CH.set_set, lkV, lkR, isKey, mupV, nxtV, ρ28, ρ29, hag, f4, o1, o2]) | (with_reducible first | refine condK_dec (fun _ => ?_) fun _ => ?_ | refine grd_dec (fun _ => ?_) fun _ => ?_ | refine egrd_dec (fun _ => ?_) fun _ => ?_))
    refine ⟨hx.set (by omega) _, [_, _, _, _, _], rfl, .cons (.sc rfl) (.cons (.sc rfl) (.cons (.sc rfl) (.cons (.sc rfl) (.cons (hw.mv fun b hb => ⟨⟨by omega, hb.2⟩, ?_⟩) .nil))))⟩
    rw [set_get, if_neg (by omega)]
end Can
end Go.Proofs.Ytnkfdkfmdeibfaa
end
section
namespace Go.Proofs.Ytnkfdkfmdeibfaa
namespace Can
open Go Go.RowKit
set_option linter.unusedSimpArgs false
set_option linter.unusedVariables false
set_option maxRecDepth 4000
inductive NU (K : CH) (R : Nat → Prop) : Nat → NC → Prop
  | leaf {m : Nat} {c : NC} (h : c.n = 0) : NU K R m c
  | row {m : Nat} {c : NC} {b : Nat} {cs : List Value} {e : TypeId} {kd : Kd} (d : Nat → NC) (ha : c.a = some ⟨b, 0, none⟩) (hb : R b) (ho : K.ob b = .cells cs e kd) (hk : kd.isRo = false) (hl : cs.length = c.n * 5) (hn : c.n ≤ maxLen) (hd : ∀ i, i < c.n → (cs.drop (i * 5)).take 5 = ncV (d i)) (hs : ∀ i, i < c.n → NU K R m (d i)) : NU K R (m + 1) c
def mkC (k : Int) : NC := ⟨k, 0, ⟨⟨[]⟩⟩, 0, none, 0, 0⟩
structure Mk (k : Int) (R : Nat → Prop) (K K' : CH) : Prop where
  nx : K.nx ≤ K'.nx
  out : ∀ b, ¬ R b → b < K.nx → K'.ob b = K.ob b
  inn : ∀ b cs e kd, R b → K.ob b = .cells cs e kd → ∃ cs', K'.ob b = .cells cs' e kd ∧ cs'.length = cs.length ∧ ∀ i, i * 5 + 5 ≤ cs.length → (cs'.drop (i * 5)).take 5 = (cs.drop (i * 5)).take 5 ∨ (cs'.drop (i * 5)).take 5 = ncV (mkC k)
theorem Mk.trans {k : Int} {R : Nat → Prop} {K K1 K2 : CH} (h : Mk k R K K1) (g : Mk k R K1 K2) : Mk k R K K2 := ⟨Nat.le_trans h.nx g.nx, fun b hb hl => (g.out b hb (Nat.lt_of_lt_of_le hl h.nx)).trans (h.out b hb hl), fun b cs e kd hb ho => by
  obtain ⟨cs1, o1, l1, s1⟩ := h.inn b cs e kd hb ho
  obtain ⟨cs2, o2, l2, s2⟩ := g.inn b cs1 e kd hb o1
  refine ⟨cs2, o2, l2.trans l1, fun i hi => ?_⟩
  rcases s2 i (by omega) with h2 | h2
  · rw [h2]; exact s1 i hi
  · exact .inr h2⟩
open Classical in
theorem NU.mk {k : Int} {R : Nat → Prop} {K K' : CH} (g : Mk k R K K') {m : Nat} {c : NC} (h : NU K R m c) : NU K' R m c := by
  induction h with
  | leaf h => exact .leaf h
  | @row m c b cs e kd d ha hb ho hk hl hn hd hs ih =>
    obtain ⟨cs', o', l', s'⟩ := g.inn b cs e kd hb ho
    refine .row (fun i => if (cs'.drop (i * 5)).take 5 = (cs.drop (i * 5)).take 5 then d i else mkC k) ha hb o' hk (l'.trans hl) hn (fun i hi => ?_) fun i hi => ?_
    · by_cases e : (cs'.drop (i * 5)).take 5 = (cs.drop (i * 5)).take 5
      · rw [if_pos e, e]; exact hd i hi
      · rw [if_neg e]
        rcases s' i (by omega) with h | h
        · exact absurd h e
        · exact h
    · by_cases e : (cs'.drop (i * 5)).take 5 = (cs.drop (i * 5)).take 5
      · rw [if_pos e]; exact ih i hi
      · rw [if_neg e]; exact .leaf rfl
theorem setc_len {cs vs : List Value} {i : Nat} (h : i * 5 + 5 ≤ cs.length) (hv : vs.length = 5) : (setCells cs (i * 5) vs).length = cs.length := by
  unfold setCells
  simp only [List.length_append, List.length_take, List.length_drop, hv]
  omega
theorem setc_grp {cs vs : List Value} {i j : Nat} (h : i * 5 + 5 ≤ cs.length) (hv : vs.length = 5) : ((setCells cs (i * 5) vs).drop (j * 5)).take 5 = if j = i then vs else (cs.drop (j * 5)).take 5 := by
  apply List.ext_getElem?
  intro n
  by_cases hn : n < 5
  · rw [List.getElem?_take_of_lt hn, List.getElem?_drop]
    unfold setCells
    by_cases e : j = i
    · subst e
      rw [if_pos rfl, List.append_assoc, List.getElem?_append_right (by rw [List.length_take]; omega), List.length_take, Nat.min_eq_left (by omega), List.getElem?_append_left (by omega)]
      congr 1; omega
    · rw [if_neg e, List.getElem?_take_of_lt hn, List.getElem?_drop]
      rcases Nat.lt_or_ge j i with g | g
      · rw [List.append_assoc, List.getElem?_append_left (by rw [List.length_take]; omega), List.getElem?_take_of_lt (by omega)]
      · rw [List.getElem?_append_right (by rw [List.length_append, List.length_take]; omega), List.getElem?_drop, List.length_append, List.length_take, hv]
        congr 1; omega
  · rw [List.getElem?_eq_none (by rw [List.length_take]; omega)]
    split
    · rw [List.getElem?_eq_none (by omega)]
    · rw [List.getElem?_eq_none (by rw [List.length_take]; omega)]
theorem mk_set {k : Int} {R : Nat → Prop} {K : CH} {b i : Nat} {cs : List Value} {e : TypeId} {kd : Kd} (hb : R b) (ho : K.ob b = .cells cs e kd) (hi : i * 5 + 5 ≤ cs.length) : Mk k R K (K.set b (.cells (setCells cs (i * 5) (ncV (mkC k))) e kd)) :=
  ⟨Nat.le_refl _, fun b' hb' _ => by rw [set_get, if_neg (fun e => hb' (by rw [e]; exact hb))], fun b' cs' e' kd' hb' ho' => by
    by_cases eb : b' = b
    · subst eb
      rw [ho] at ho'
      cases ho'
      refine ⟨_, by rw [set_get, if_pos rfl], setc_len hi rfl, fun j hj => ?_⟩
      rw [setc_grp hi rfl]
      by_cases ej : j = i
      · rw [if_pos ej]; exact .inr rfl
      · rw [if_neg ej]; exact .inl rfl
    · exact ⟨cs', by rw [set_get, if_neg eb]; exact ho', rfl, fun _ _ => .inl rfl⟩⟩
theorem svrs_nu {K : CH} {A R : Nat → Prop} (hAR : ∀ b, A b → R b) : ∀ (N : Nat) (t : Nd), nsz t < N → ∀ (c : NC), SVRs K A (ndS t) (ncV c) → NU K R N c := by
  intro N
  induction N with
  | zero => intro t h; exact absurd h (Nat.not_lt_zero _)
  | succ N ih =>
  rintro ⟨k, l, x, o, ks⟩ hN c hs
  obtain ⟨w, _, he, hw, hn⟩ := nd_inv (rest := []) (by simpa using hs)
  cases hn
  obtain ⟨q, rfl, hml, hq0, hq⟩ := row_at hw
  obtain ⟨ck, cl, cx, co, ca, cn, cc⟩ := c
  cases he
  rcases Nat.eq_zero_or_pos ks.length with g | g
  · exact .leaf g
  · have hgr : ∀ i, i < ks.length → ∃ d, ∀ b cs e kd, ca = some ⟨b, 0, none⟩ → K.ob b = .cells cs e kd → (cs.drop (i * 5)).take 5 = ncV d ∧ NU K R N d := fun i hi => by
      have ht : ks[i]? = some ks[i] := List.getElem?_eq_getElem hi
      obtain ⟨b, cs, e, kd, e1, _, e2, _, _, _, hst⟩ := hq i _ ht
      obtain ⟨d, hd⟩ := nd_nc hst
      refine ⟨d, fun b' cs' e' kd' g1 g2 => ?_⟩
      have e1 : ca = _ := e1
      rw [e1] at g1; cases g1
      rw [e2] at g2; cases g2
      have hlt := nsz_lt (List.mem_of_getElem? ht) (k := k) (l := cl) (x := x) (o := o)
      have hN : nsz (.mk k cl x o ks) < N + 1 := hN
      exact ⟨hd, ih ks[i] (by omega) d (by rw [← hd]; exact hst)⟩
    obtain ⟨b, cs, e, kd, e1, hb, e2, hk, hl, _, _⟩ := hq 0 _ (List.getElem?_eq_getElem g)
    refine .row (fun i => if h : i < ks.length then (hgr i h).choose else mkC 0) e1 (hAR b hb) e2 hk hl hml (fun i hi => ?_) fun i hi => ?_
    · have hi : i < ks.length := hi
      rw [dif_pos hi]
      exact ((hgr i hi).choose_spec b cs e kd e1 e2).1
    · have hi : i < ks.length := hi
      rw [dif_pos hi]
      exact ((hgr i hi).choose_spec b cs e kd e1 e2).2
def MkJ (K : CH) (R : Nat → Prop) (k : Int) (c : NC) (n : Nat) (v4 : Value) (K1 : CH) : Prop := ∃ i : Nat, n = c.n - i ∧ i ≤ c.n ∧ v4 = .int .i64 (i : Nat) ∧ K1.ob K.nx = .cells [.int .i64 c.k, .int .i64 c.l, .string c.x, .int .i64 c.o, .slice c.a c.n c.c] 28 .ex ∧ K.nx < K1.nx ∧ Mk k R K K1
set_option maxHeartbeats 1000000 in
theorem marks_step {k : Int} {R : Nat → Prop} {c : NC} {K : CH} (hR : ∀ b, R b → b < K.nx) (hn : c.n ≤ 9223372036854775807)
    (hP : ∀ i, i < c.n → ∀ K1, Mk k R K K1 → ∃ b cs e kd d, c.a = some ⟨b, 0, none⟩ ∧ R b ∧ K1.ob b = .cells cs e kd ∧ kd.isRo = false ∧ cs.length = c.n * 5 ∧ (cs.drop (i * 5)).take 5 = ncV d ∧ WpF TL 13 [.agg (ncV d).toArray, .int .i64 k] K1 fun v K' => Mk k R K1 K') :
    WpF TL 13 [.agg (ncV c).toArray, .int .i64 k] K fun v K' => Mk k R K K' := by
  have hp : ¬ R K.nx := fun h => absurd (hR _ h) (Nat.lt_irrefl _)
  refine wpF_rS (by rfl) (by kernel_rfl) ?_
  conv in (rF _ _).body => reduce
  conv in (rF _ _).res => reduce
  repeat' (first | (simp (disch := first | omega | (decide +kernel) | (repeat first | assumption | exact HExt.refl _ | refine HExt.set ?_ (by first | omega | (simp only [new_nx, set_nx]; omega)) _ | refine HExt.new ?_ _)) only [↓RD, RU, accW_t, accW_f, isW, ↓putF_get, ↓putF_none, ↓evF_t, ↓evF_c, ↓evF_f, new_nx, set_nx, new_get, set_get, getD_zero, getD_succ, u_not, pop, lop, aop, wop, resL, resV, tupleV, akV, isVal, isCell, Value.cells, ρ0, ρ1, ρ2, ρ3, ρ4, ↓reduceIte, Nat.reduceEqDiff, Nat.reduceAdd, Int.reduceOfNat, Int.reduceNegSucc, reduceCtorEq, ρ5, ρ6, ρ7, ρ8, srcR_c, src_n, src_v, src_s, bnd, lenV, capV, ρ9, ρ10, ρ11, ρ12, ρ13, ρ14, ρ15, ρ16, ρ17, ρ18, ρ19, ρ20, ρ21, ρ22, ρ23, ρ24, Kd.isRo, ρ25, ρ26, bldV, Nat.reduceLeDiff, Int.reduceMul, Int.reduceAdd, Int.reduceSub, Int.reduceToNat, maxLen_eq, zeros_one, appS_some, appV_n, appV_v, appH_t, appH_f, Kd.isEx, ρ27, partV, CH.set_set, lkV, lkR, isKey, mupV, nxtV, ρ28, ρ29, ncV]) | (with_reducible first | refine condK_dec (fun _ => ?_) fun _ => ?_ | refine grd_dec (fun _ => ?_) fun _ => ?_ | refine egrd_dec (fun _ => ?_) fun _ => ?_))
  refine loop_w (fun n fr K1 => MkJ K R k c n (fr 4) K1) (n := c.n) ⟨0, rfl, Nat.zero_le _, by (repeat' (first | (simp (disch := first | omega | (decide +kernel) | (repeat first | assumption | exact HExt.refl _ | refine HExt.set ?_ (by first | omega | (simp only [new_nx, set_nx]; omega)) _ | refine HExt.new ?_ _)) only [↓RD, RU, accW_t, accW_f, isW, ↓putF_get, ↓putF_none, ↓evF_t, ↓evF_c, ↓evF_f, new_nx, set_nx, new_get, set_get, getD_zero, getD_succ, u_not, pop, lop, aop, wop, resL, resV, tupleV, akV, isVal, isCell, Value.cells, ρ0, ρ1, ρ2, ρ3, ρ4, ↓reduceIte, Nat.reduceEqDiff, Nat.reduceAdd, Int.reduceOfNat, Int.reduceNegSucc, reduceCtorEq, ρ5, ρ6, ρ7, ρ8, srcR_c, src_n, src_v, src_s, bnd, lenV, capV, ρ9, ρ10, ρ11, ρ12, ρ13, ρ14, ρ15, ρ16, ρ17, ρ18, ρ19, ρ20, ρ21, ρ22, ρ23, ρ24, Kd.isRo, ρ25, ρ26, bldV, Nat.reduceLeDiff, Int.reduceMul, Int.reduceAdd, Int.reduceSub, Int.reduceToNat, maxLen_eq, zeros_one, appS_some, appV_n, appV_v, appH_t, appH_f, Kd.isEx, ρ27, partV, CH.set_set, lkV, lkR, isKey, mupV, nxtV, ρ28, ρ29]) | (with_reducible first | refine condK_dec (fun _ => ?_) fun _ => ?_ | refine grd_dec (fun _ => ?_) fun _ => ?_ | refine egrd_dec (fun _ => ?_) fun _ => ?_)); all_goals rfl), by repeat' (first | (simp (disch := first | omega | (decide +kernel) | (repeat first | assumption | exact HExt.refl _ | refine HExt.set ?_ (by first | omega | (simp only [new_nx, set_nx]; omega)) _ | refine HExt.new ?_ _)) only [↓RD, RU, accW_t, accW_f, isW, ↓putF_get, ↓putF_none, ↓evF_t, ↓evF_c, ↓evF_f, new_nx, set_nx, new_get, set_get, getD_zero, getD_succ, u_not, pop, lop, aop, wop, resL, resV, tupleV, akV, isVal, isCell, Value.cells, ρ0, ρ1, ρ2, ρ3, ρ4, ↓reduceIte, Nat.reduceEqDiff, Nat.reduceAdd, Int.reduceOfNat, Int.reduceNegSucc, reduceCtorEq, ρ5, ρ6, ρ7, ρ8, srcR_c, src_n, src_v, src_s, bnd, lenV, capV, ρ9, ρ10, ρ11, ρ12, ρ13, ρ14, ρ15, ρ16, ρ17, ρ18, ρ19, ρ20, ρ21, ρ22, ρ23, ρ24, Kd.isRo, ρ25, ρ26, bldV, Nat.reduceLeDiff, Int.reduceMul, Int.reduceAdd, Int.reduceSub, Int.reduceToNat, maxLen_eq, zeros_one, appS_some, appV_n, appV_v, appH_t, appH_f, Kd.isEx, ρ27, partV, CH.set_set, lkV, lkR, isKey, mupV, nxtV, ρ28, ρ29]) | (with_reducible first | refine condK_dec (fun _ => ?_) fun _ => ?_ | refine grd_dec (fun _ => ?_) fun _ => ?_ | refine egrd_dec (fun _ => ?_) fun _ => ?_)), Nat.lt_succ_self _, ⟨Nat.le_succ _, fun b _ hb => new_ne (by omega), fun b cs e kd hb ho => ⟨cs, (new_ne (Nat.ne_of_lt (hR b hb))).trans ho, rfl, fun _ _ => .inl rfl⟩⟩⟩ ?_
  rintro n fr K1 ⟨i, rfl, hi, f4, o1, hnx, hm⟩ hag
  by_cases hil : i < c.n
  · obtain ⟨b, cs, e, kd, d, ha, hb, ho, hk, hl, hd, hw⟩ := hP i hil K1 hm
    have hd' : List.take 5 (List.drop (i * 5) cs) = [.int .i64 d.k, .int .i64 d.l, .string d.x, .int .i64 d.o, .slice d.a d.n d.c] := hd
    have hi5 : i * 5 + 5 ≤ cs.length := by omega
    have hbl := hR b hb
    repeat' (first | (simp (disch := first | omega | (decide +kernel) | (repeat first | assumption | exact HExt.refl _ | refine HExt.set ?_ (by first | omega | (simp only [new_nx, set_nx]; omega)) _ | refine HExt.new ?_ _)) only [↓RD, RU, accW_t, accW_f, isW, ↓putF_get, ↓putF_none, ↓evF_t, ↓evF_c, ↓evF_f, new_nx, set_nx, new_get, set_get, getD_zero, getD_succ, u_not, pop, lop, aop, wop, resL, resV, tupleV, akV, isVal, isCell, Value.cells, ρ0, ρ1, ρ2, ρ3, ρ4, ↓reduceIte, Nat.reduceEqDiff, Nat.reduceAdd, Int.reduceOfNat, Int.reduceNegSucc, reduceCtorEq, ρ5, ρ6, ρ7, ρ8, srcR_c, src_n, src_v, src_s, bnd, lenV, capV, ρ9, ρ10, ρ11, ρ12, ρ13, ρ14, ρ15, ρ16, ρ17, ρ18, ρ19, ρ20, ρ21, ρ22, ρ23, ρ24, Kd.isRo, ρ25, ρ26, bldV, Nat.reduceLeDiff, Int.reduceMul, Int.reduceAdd, Int.reduceSub, Int.reduceToNat, maxLen_eq, zeros_one, appS_some, appV_n, appV_v, appH_t, appH_f, Kd.isEx, ρ27, partV, CH.set_set, lkV, lkR, isKey, mupV, nxtV, ρ28, ρ29, hag, f4, o1, ha, ho, hd', hl, Nat.zero_add]) | (with_reducible first | refine condK_dec (fun _ => ?_) fun _ => ?_ | refine grd_dec (fun _ => ?_) fun _ => ?_ | refine egrd_dec (fun _ => ?_) fun _ => ?_))
    refine hw.mono ?_
    rintro v K2 hm2
    have o2 := (hm2.out _ hp hnx).trans o1
    obtain ⟨cs2, ho2, hl2, _⟩ := hm2.inn b cs e kd hb ho
    have hn2 := hm2.nx
    have hi52 : i * 5 + 5 ≤ cs2.length := by omega
    have hl2' := hl2.trans hl
    have hi54 : i * 5 + 5 ≤ c.n * 5 := by omega
    repeat' (first | (simp (disch := first | omega | (decide +kernel) | (repeat first | assumption | exact HExt.refl _ | refine HExt.set ?_ (by first | omega | (simp only [new_nx, set_nx]; omega)) _ | refine HExt.new ?_ _)) only [↓r_seq, ↓r_block, ↓seqK_n, ↓seqK_r, ↓seqK_e, ↓blockK_n, ↓blockK_r, ↓blockK_e, ↓loopI_n, ↓loopI_r, ↓loopI_e, ↓funK_n, ↓funK_r, ↓r_reg, ↓r_drw, ↓r_cond, ↓condK_t, ↓condK_f, ↓i_cons, ↓eitemK, ↓e_nil, ↓e_cons, ↓e_grd, ↓egrd_tt, ↓egrd_ff, ↓egrd_tf, ↓egrd_ft, ↓egrd_s, ↓drwK, ↓r_drw2, ↓chk_nil, ↓chk_n, ↓chk_g, agL, agV_tt, agV_ff, agV_tf, agV_ft, agV_s, agE, accW_t, accW_f, isW, ↓i_grd, ↓grd_tt, ↓grd_ff, ↓grd_tf, ↓grd_ft, ↓grd_s, ↓itemK, ↓o_p, ↓o_l, ↓o_a, ↓o_w, ↓o_call, ↓o_callv, ↓callvK_f, ↓callvK_y, ↓r_range, ↓rangeV_f, ↓putF_get, ↓putF_none, ↓evF_t, ↓evF_c, ↓evF_f, new_nx, set_nx, new_get, set_get, optV_some, optW_some, optA_some, finK_some, ↓wpI_nil, ↓wpR_skip, ↓wpR_exit, ↓wpR_ret, getD_zero, getD_succ, b_add, b_sub, b_mul, b_quo, b_rem, b_eql, b_neq, b_lss, b_leq, b_gtr, b_geq, u_not, w_i64, w_u64, w_u8, t_div, t_mod, pop, lop, aop, wop, resL, resV, tupleV, akV, isVal, isCell, Value.cells, List.map_cons, List.map_nil, Bool.not_true, Bool.not_false, Option.map_some, ↓reduceIte, Nat.reduceEqDiff, Nat.reduceAdd, Int.reduceOfNat, Int.reduceNegSucc, decide_true, decide_false, reduceCtorEq, List.getElem?_cons_zero, List.getElem?_cons_succ, List.length_cons, List.length_nil, setc_0, setc_s, srcR_c, src_n, src_v, src_r, src_s, bnd, lenV, capV, Option.isSome_none, Option.isNone_none, Option.isSome_some, Option.isNone_some, Bool.or_false, Bool.or_true, Bool.true_or, Bool.false_or, List.take_succ_cons, List.take_zero, List.drop_succ_cons, List.drop_zero, List.cons_append, List.nil_append, List.append_nil, List.take_nil, List.drop_nil, List.all_cons, List.all_nil, Bool.and_true, Bool.true_and, List.size_toArray, List.getElem?_toArray, List.toList_toArray, bldV, Nat.reduceLeDiff, Nat.le_refl, u_neg, b_or0, Int.reduceMul, Int.reduceAdd, Int.reduceSub, Int.zero_mul, Int.zero_add, Int.add_zero, b_and3, b_and8, b_and24, b_shr2, b_shrs2, b_shr8, b_shr32, b_shr56, b_shl2, b_shl8, b_shl32, toNat_add1, toNat_add2, toNat_addn, toNat_add2n, Int.reduceToNat, maxLen_eq, zeros_one, zeros_two, zeros_three, take_mapl, List.length_map, List.map_append, List.length_append, beq_self_eq_true, beq_true, beq_false, Bool.false_xor, Bool.true_xor, Bool.xor_false, Bool.xor_true, dec_t, dec_f, ↓w_app, appS_some, appV_n, appV_v, appV_r, appR_c, appH_t, appH_f, Kd.isEx, Bool.false_and, partV, if_pos, if_neg, Nat.mul_one, Nat.one_mul, Nat.zero_add, Nat.add_zero, Int.toNat_natCast, true_and, and_true, hag, f4, o2, ha, ho2, hl2', hk, Nat.zero_add, hi54]) | (with_reducible first | refine condK_dec (fun _ => ?_) fun _ => ?_ | refine grd_dec (fun _ => ?_) fun _ => ?_ | refine egrd_dec (fun _ => ?_) fun _ => ?_))
    exact ⟨c.n - (i + 1), by omega, i + 1, rfl, hil, rfl, (set_get.trans (if_neg (by omega))).trans o2, by rw [set_nx]; omega, (hm.trans hm2).trans (mk_set hb ho2 hi52)⟩
  · repeat' (first | (simp (disch := first | omega | (decide +kernel) | (repeat first | assumption | exact HExt.refl _ | refine HExt.set ?_ (by first | omega | (simp only [new_nx, set_nx]; omega)) _ | refine HExt.new ?_ _)) only [↓RD, RU, accW_t, accW_f, isW, ↓putF_get, ↓putF_none, ↓evF_t, ↓evF_c, ↓evF_f, new_nx, set_nx, new_get, set_get, getD_zero, getD_succ, u_not, pop, lop, aop, wop, resL, resV, tupleV, akV, isVal, isCell, Value.cells, ρ0, ρ1, ρ2, ρ3, ρ4, ↓reduceIte, Nat.reduceEqDiff, Nat.reduceAdd, Int.reduceOfNat, Int.reduceNegSucc, reduceCtorEq, ρ5, ρ6, ρ7, ρ8, srcR_c, src_n, src_v, src_s, bnd, lenV, capV, ρ9, ρ10, ρ11, ρ12, ρ13, ρ14, ρ15, ρ16, ρ17, ρ18, ρ19, ρ20, ρ21, ρ22, ρ23, ρ24, Kd.isRo, ρ25, ρ26, bldV, Nat.reduceLeDiff, Int.reduceMul, Int.reduceAdd, Int.reduceSub, Int.reduceToNat, maxLen_eq, zeros_one, appS_some, appV_n, appV_v, appH_t, appH_f, Kd.isEx, ρ27, partV, CH.set_set, lkV, lkR, isKey, mupV, nxtV, ρ28, ρ29, hag, f4, o1]) | (with_reducible first | refine condK_dec (fun _ => ?_) fun _ => ?_ | refine grd_dec (fun _ => ?_) fun _ => ?_ | refine egrd_dec (fun _ => ?_) fun _ => ?_))
    exact hm
theorem marks_wp (k : Int) (R : Nat → Prop) : ∀ (m : Nat) (c : NC) (K : CH), NU K R m c → (∀ b, R b → b < K.nx) → WpF TL 13 [.agg (ncV c).toArray, .int .i64 k] K fun v K' => Mk k R K K' := by
  intro m
  induction m with
  | zero =>
    intro c K h hR
    cases h with | leaf h0 => exact marks_step hR (by omega) fun i hi => by omega
  | succ m ih =>
    intro c K h hR
    refine marks_step hR (by cases h with | leaf h0 => omega | row d ha hb ho hk hl hn hd hs => rw [← maxLen_eq]; exact hn) fun i hi K1 hm => ?_
    have h1 := h.mk hm
    cases h1 with
    | leaf h0 => omega
    | row d ha hb ho hk hl hn hd hs => exact ⟨_, _, _, _, d i, ha, hb, ho, hk, hl, hd i hi, ih _ _ (hs i hi) fun b hb => Nat.lt_of_lt_of_le (hR b hb) hm.nx⟩
end Can
end Go.Proofs.Ytnkfdkfmdeibfaa
end
section
namespace Go.Proofs.Ytnkfdkfmdeibfaa
namespace Can
open Go Go.RowKit
set_option linter.unusedSimpArgs false
set_option linter.unusedVariables false
set_option maxRecDepth 4000
theorem grp_flat : ∀ (ts : List PT) (os : List Value) (o : Nat), o + ts.length * 3 ≤ os.length → (∀ i (h : i < ts.length), (os.drop (o + i * 3)).take 3 = tokV ts[i]) → (os.drop o).take (ts.length * 3) = ts.flatMap tokV
  | [], os, o, _, _ => by simp
  | t :: ts, os, o, hl, h => by
    have h0 := h 0 (by simp)
    have ih := grp_flat ts os (o + 3) (by simp only [List.length_cons] at hl; omega) fun i hi => by
      have := h (i + 1) (by simp; omega)
      rw [show o + 3 + i * 3 = o + (i + 1) * 3 by omega]
      exact this
    rw [List.length_cons, show (ts.length + 1) * 3 = 3 + ts.length * 3 by omega, List.take_add, List.drop_drop, ih, List.flatMap_cons]
    rw [Nat.zero_mul, Nat.add_zero] at h0
    rw [h0]; rfl
theorem src_tok {K : CH} {q : Option Addr} {c : Nat} {ts : List PT} (h : SlAt 3 CTk K q c ts) : srcCells K 3 (.slice q ts.length c) = some (ts.flatMap tokV, ts.length) := by
  rcases h with ⟨rfl, rfl, rfl | rfl | rfl⟩ | ⟨l, o, os, e, kd, rfl, h1, h2, h3, h4, h5, h6⟩
  · rfl
  · rfl
  · rfl
  · rw [src_r]
    by_cases h0 : ts.length = 0
    · have : ts = [] := List.length_eq_zero_iff.1 h0
      subst this
      simp
    · rw [if_neg h0, h4, srcR_c, if_pos h5, grp_flat ts os o h5 h6]
def Rm (A K : CH) (v : Value) (xs : List PT) : Prop := ∃ b c cs kd, v = .slice (some ⟨b, 0, none⟩) xs.length c ∧ A.nx ≤ b ∧ b < K.nx ∧ K.ob b = .cells cs 25 kd ∧ kd.isRo = false ∧ xs.length * 3 ≤ cs.length ∧ cs.take (xs.length * 3) = xs.flatMap tokV
theorem flat_cell : ∀ xs : List PT, (xs.flatMap tokV).all isCell = true
  | [] => rfl
  | x :: xs => by
    rw [List.flatMap_cons, List.all_append, flat_cell xs]; rfl
theorem rm_app {A K : CH} {v : Value} {xs ys : List PT} (hg : Rm A K v xs) (hA : HExt A K) (hb : (xs.length + ys.length) * 32 ≤ 140737488355328) {us : List Value} {m : Nat} (hu : us = ys.flatMap tokV) (hm : m = ys.length) {Q : Value → CH → Prop}
    (k : ∀ v' K', Rm A K' v' (xs ++ ys) → HExt A K' → (ys ≠ [] → ∃ b, A.nx ≤ b ∧ b < K'.nx ∧ v' = .slice (some ⟨b, 0, none⟩) (xs ++ ys).length (xs ++ ys).length ∧ K'.ob b = .cells ((xs ++ ys).flatMap tokV) 25 .gr) → Q v' K') : optW (appV 25 3 32 v us m K) Q := by
  subst hu hm
  obtain ⟨b, c, cs, kd, rfl, h1, h2, h3, h4, h5, h6⟩ := hg
  rw [appV_r, h3, appR_c]
  by_cases h0 : ys.length = 0
  · have : ys = [] := List.length_eq_zero_iff.1 h0
    subst this
    rw [if_pos (show ([] : List PT).length = 0 from rfl), optW_some]
    refine k _ _ ?_ hA fun h => absurd rfl h
    rw [List.append_nil]
    exact ⟨b, c, cs, kd, rfl, h1, h2, h3, h4, h5, h6⟩
  · rw [if_neg h0, if_pos ⟨rfl, rfl, h4, h5, flat_cell ys, hb, by rw [maxLen_eq]; omega⟩, optW_some, h6]
    have hnx : ∀ o, (appH (kd.isEx && decide (c < xs.length + ys.length)) K b o).nx = K.nx + 1 := fun o => by unfold appH; split <;> rfl
    have hat : ∀ o, (appH (kd.isEx && decide (c < xs.length + ys.length)) K b o).ob K.nx = o := fun o => by
      unfold appH; split <;> (simp only [CH.new, CH.set]; simp)
    have hot : ∀ o l, l < K.nx → l ≠ b → (appH (kd.isEx && decide (c < xs.length + ys.length)) K b o).ob l = K.ob l := fun o l hl hb => by
      unfold appH
      split
      · rw [new_get, if_neg (by omega)]
      · rw [new_get, if_neg (by show l ≠ K.nx; omega), set_get, if_neg hb]
    have hfl : ((xs ++ ys).flatMap tokV).length = (xs ++ ys).length * 3 := flat_len (f := tokV) (sz := 3) (fun x => (tok_ok x).1) _
    have hcs : xs.flatMap tokV ++ ys.flatMap tokV = (xs ++ ys).flatMap tokV := List.flatMap_append.symm
    rw [hcs]
    have hl2 : xs.length + ys.length = (xs ++ ys).length := List.length_append.symm
    rw [hl2] at hnx hat hot ⊢
    exact k _ _ ⟨K.nx, _, _, .gr, rfl, hA.nx, by rw [hnx]; omega, hat _, rfl, by rw [hfl]; exact Nat.le_refl _, by rw [← hfl, List.take_length]⟩ ⟨by rw [hnx]; have := hA.nx; omega, fun l hl => by have := hA.nx; rw [hot _ l (by omega) (by omega)]; exact hA.ob l hl⟩ fun _ => ⟨K.nx, hA.nx, by rw [hnx]; omega, rfl, hat _⟩
theorem slat_pre {K : CH} {b c : Nat} {ts us : List PT} {e : TypeId} {kd : Kd} (hb : b < K.nx) (ho : K.ob b = .cells ((ts ++ us).flatMap tokV) e kd) (hc : ts.length ≤ c) (hm : c ≤ 9223372036854775807) : SlAt 3 CTk K (some ⟨b, 0, none⟩) c ts := by
  have hfl : ((ts ++ us).flatMap tokV).length = (ts ++ us).length * 3 := flat_len (f := tokV) (sz := 3) (fun x => (tok_ok x).1) _
  refine .inr ⟨b, 0, _, e, kd, rfl, hb, hc, by rw [maxLen_eq]; exact hm, ho, by rw [hfl, List.length_append]; omega, fun i hi => ?_⟩
  have hg : ((ts ++ us).map tokV)[i]? = some (tokV ts[i]) := by
    rw [List.getElem?_map, List.getElem?_append_left hi, List.getElem?_eq_getElem hi]; rfl
  have := (flat_grp (sz := 3) (gs := (ts ++ us).map tokV) (fun g hg => by obtain ⟨t, _, rfl⟩ := List.mem_map.1 hg; rfl) hg).1
  show (((ts ++ us).flatMap tokV).drop (0 + i * 3)).take 3 = tokV ts[i]
  rw [Nat.zero_add, List.flatMap_def]
  exact this
theorem gok_t : @gOK Try.prog 25 = true := by unfold gOK; kernel_rfl
theorem gks_t : @gKs Try.prog 25 = [0, 0, 1] := by unfold gKs; kernel_rfl
theorem eqTk {a b : Int} {s : List UInt8} : eqAll [0, 0, 1] [.int .i64 a, .int .i64 b, .string ⟨⟨s⟩⟩] [.int .i64 a, .int .i64 b, .string ⟨⟨s⟩⟩] = some true := by
  have : ((⟨⟨s⟩⟩ : ByteArray) == ⟨⟨s⟩⟩) = true := by
    show ((⟨s⟩ : Array UInt8) == ⟨s⟩) = true
    exact beq_self_eq_true _
  simp only [eqAll, if_true, Option.map_some, decide_true, Bool.true_and]
  rw [this]; rfl
theorem tsame_wp (K : CH) {q q' : Option Addr} {c c' : Nat} {ts : List PT} (h : SlAt 3 CTk K q c ts) (h' : SlAt 3 CTk K q' c' ts) (hl : ts.length ≤ 9223372036854775807) : WpF TL 12 [.slice q ts.length c, .slice q' ts.length c'] K fun r K' => r = .bool true ∧ K' = K := by
  refine wpF_rS (by rfl) (by kernel_rfl) ?_
  conv in (rF _ _).body => reduce
  conv in (rF _ _).res => reduce
  repeat' (first | (simp (disch := first | omega | (decide +kernel) | (repeat first | assumption | exact HExt.refl _ | refine HExt.set ?_ (by first | omega | (simp only [new_nx, set_nx]; omega)) _ | refine HExt.new ?_ _)) only [↓RD, RU, accW_t, accW_f, isW, ↓putF_get, ↓putF_none, ↓evF_t, ↓evF_c, ↓evF_f, new_nx, set_nx, new_get, set_get, getD_zero, getD_succ, u_not, pop, lop, aop, wop, resL, resV, tupleV, akV, isVal, isCell, Value.cells, ρ0, ρ1, ρ2, ρ3, ρ4, ↓reduceIte, Nat.reduceEqDiff, Nat.reduceAdd, Int.reduceOfNat, Int.reduceNegSucc, reduceCtorEq, ρ5, ρ6, ρ7, ρ8, srcR_c, src_n, src_v, src_s, bnd, lenV, capV, ρ9, ρ10, ρ11, ρ12, ρ13, ρ14, ρ15, ρ16, ρ17, ρ18, ρ19, ρ20, ρ21, ρ22, ρ23, ρ24, Kd.isRo, ρ25, ρ26, bldV, Nat.reduceLeDiff, Int.reduceMul, Int.reduceAdd, Int.reduceSub, Int.reduceToNat, maxLen_eq, zeros_one, appS_some, appV_n, appV_v, appH_t, appH_f, Kd.isEx, ρ27, partV, CH.set_set, lkV, lkR, isKey, mupV, nxtV, ρ28, ρ29]) | (with_reducible first | refine condK_dec (fun _ => ?_) fun _ => ?_ | refine grd_dec (fun _ => ?_) fun _ => ?_ | refine egrd_dec (fun _ => ?_) fun _ => ?_))
  refine loop_w (fun n fr K1 => ∃ i : Nat, n = ts.length - i ∧ i ≤ ts.length ∧ fr 5 = .int .i64 (i : Nat) ∧ K1 = K) (n := ts.length) ⟨0, rfl, by omega, by (repeat' (first | (simp (disch := first | omega | (decide +kernel) | (repeat first | assumption | exact HExt.refl _ | refine HExt.set ?_ (by first | omega | (simp only [new_nx, set_nx]; omega)) _ | refine HExt.new ?_ _)) only [↓RD, RU, accW_t, accW_f, isW, ↓putF_get, ↓putF_none, ↓evF_t, ↓evF_c, ↓evF_f, new_nx, set_nx, new_get, set_get, getD_zero, getD_succ, u_not, pop, lop, aop, wop, resL, resV, tupleV, akV, isVal, isCell, Value.cells, ρ0, ρ1, ρ2, ρ3, ρ4, ↓reduceIte, Nat.reduceEqDiff, Nat.reduceAdd, Int.reduceOfNat, Int.reduceNegSucc, reduceCtorEq, ρ5, ρ6, ρ7, ρ8, srcR_c, src_n, src_v, src_s, bnd, lenV, capV, ρ9, ρ10, ρ11, ρ12, ρ13, ρ14, ρ15, ρ16, ρ17, ρ18, ρ19, ρ20, ρ21, ρ22, ρ23, ρ24, Kd.isRo, ρ25, ρ26, bldV, Nat.reduceLeDiff, Int.reduceMul, Int.reduceAdd, Int.reduceSub, Int.reduceToNat, maxLen_eq, zeros_one, appS_some, appV_n, appV_v, appH_t, appH_f, Kd.isEx, ρ27, partV, CH.set_set, lkV, lkR, isKey, mupV, nxtV, ρ28, ρ29]) | (with_reducible first | refine condK_dec (fun _ => ?_) fun _ => ?_ | refine grd_dec (fun _ => ?_) fun _ => ?_ | refine egrd_dec (fun _ => ?_) fun _ => ?_)); all_goals rfl), rfl⟩ ?_
  rintro n fr K1 ⟨i, rfl, hi, f5, rfl⟩ hag
  by_cases hil : i < ts.length
  · obtain ⟨l, o, os, e, kd, hq, p1, p2, p3, p4, _⟩ := tk_get h hil
    obtain ⟨l', o', os', e', kd', hq', p1', p2', p3', p4', _⟩ := tk_get h' hil
    have p4 : List.take 3 (List.drop (o + i * 3) os) = [.int .i64 ts[i].kind, .int .i64 ts[i].line, .string ⟨⟨ts[i].text⟩⟩] := p4
    have p4' : List.take 3 (List.drop (o' + i * 3) os') = [.int .i64 ts[i].kind, .int .i64 ts[i].line, .string ⟨⟨ts[i].text⟩⟩] := p4'
    repeat' (first | (simp (disch := first | omega | (decide +kernel) | (repeat first | assumption | exact HExt.refl _ | refine HExt.set ?_ (by first | omega | (simp only [new_nx, set_nx]; omega)) _ | refine HExt.new ?_ _)) only [↓RD, RU, accW_t, accW_f, isW, ↓putF_get, ↓putF_none, ↓evF_t, ↓evF_c, ↓evF_f, new_nx, set_nx, new_get, set_get, getD_zero, getD_succ, u_not, pop, lop, aop, wop, resL, resV, tupleV, akV, isVal, isCell, Value.cells, ρ0, ρ1, ρ2, ρ3, ρ4, ↓reduceIte, Nat.reduceEqDiff, Nat.reduceAdd, Int.reduceOfNat, Int.reduceNegSucc, reduceCtorEq, ρ5, ρ6, ρ7, ρ8, srcR_c, src_n, src_v, src_s, bnd, lenV, capV, ρ9, ρ10, ρ11, ρ12, ρ13, ρ14, ρ15, ρ16, ρ17, ρ18, ρ19, ρ20, ρ21, ρ22, ρ23, ρ24, Kd.isRo, ρ25, ρ26, bldV, Nat.reduceLeDiff, Int.reduceMul, Int.reduceAdd, Int.reduceSub, Int.reduceToNat, maxLen_eq, zeros_one, appS_some, appV_n, appV_v, appH_t, appH_f, Kd.isEx, ρ27, partV, CH.set_set, lkV, lkR, isKey, mupV, nxtV, ρ28, ρ29, hag, f5, hq, hq', p1, p3, p4, p1', p3', p4', gok_t, gks_t, eqTk]) | (with_reducible first | refine condK_dec (fun _ => ?_) fun _ => ?_ | refine grd_dec (fun _ => ?_) fun _ => ?_ | refine egrd_dec (fun _ => ?_) fun _ => ?_))
    all_goals exact ⟨ts.length - (i + 1), by omega, i + 1, rfl, by omega, rfl⟩
  · repeat' (first | (simp (disch := first | omega | (decide +kernel) | (repeat first | assumption | exact HExt.refl _ | refine HExt.set ?_ (by first | omega | (simp only [new_nx, set_nx]; omega)) _ | refine HExt.new ?_ _)) only [↓RD, RU, accW_t, accW_f, isW, ↓putF_get, ↓putF_none, ↓evF_t, ↓evF_c, ↓evF_f, new_nx, set_nx, new_get, set_get, getD_zero, getD_succ, u_not, pop, lop, aop, wop, resL, resV, tupleV, akV, isVal, isCell, Value.cells, ρ0, ρ1, ρ2, ρ3, ρ4, ↓reduceIte, Nat.reduceEqDiff, Nat.reduceAdd, Int.reduceOfNat, Int.reduceNegSucc, reduceCtorEq, ρ5, ρ6, ρ7, ρ8, srcR_c, src_n, src_v, src_s, bnd, lenV, capV, ρ9, ρ10, ρ11, ρ12, ρ13, ρ14, ρ15, ρ16, ρ17, ρ18, ρ19, ρ20, ρ21, ρ22, ρ23, ρ24, Kd.isRo, ρ25, ρ26, bldV, Nat.reduceLeDiff, Int.reduceMul, Int.reduceAdd, Int.reduceSub, Int.reduceToNat, maxLen_eq, zeros_one, appS_some, appV_n, appV_v, appH_t, appH_f, Kd.isEx, ρ27, partV, CH.set_set, lkV, lkR, isKey, mupV, nxtV, ρ28, ρ29, hag, f5]) | (with_reducible first | refine condK_dec (fun _ => ?_) fun _ => ?_ | refine grd_dec (fun _ => ?_) fun _ => ?_ | refine egrd_dec (fun _ => ?_) fun _ => ?_))
end Can
end Go.Proofs.Ytnkfdkfmdeibfaa
end
