/- Flow: the round of Live over the ways. -/
import Derived.Test.YtapcoeecjlkdgaaFlLvS
namespace Go.Proofs.Ytapcoeecjlkdgaa
namespace Can
open Go Go.RowKit
set_option linter.unusedSimpArgs false
set_option linter.unusedVariables false
set_option maxRecDepth 4000
structure LT (tr cc : Nat) (th : List Nat) (ch : Bool) (W : Nat) (K : CH) : Prop where
  tc : K.ob (tr + 1) = .cells [.slice (some ⟨tr, 0, none⟩) W W] 36 .ex
  tr : K.ob tr = .cells (wordC th) 40 .ex
  len : th.length = W
  w64 : W64 th
  cc : K.ob cc = .cells [.bool ch] 4 .ex
def cpyV (H : CH) (d s : Value) : Option (Value × CH) := wop H (evF fun i => if i = 0 then d else s) (.cpy 1 (.tmp 0) (.tmp 1))
theorem w_cpyV {H : CH} {ev : Operand → Value} {d s : Operand} : wop H ev (.cpy 1 d s) = cpyV H (ev d) (ev s) := rfl
theorem cpyV_ok {H : CH} {t b W e : Nat} {kd : Kd} {ws us : List Nat} (hT : H.ob t = .cells (wordC ws) 40 .ex) (hB : H.ob b = .cells (wordC us) e kd) (h1 : ws.length = W) (h2 : us.length = W) :
    cpyV H (.slice (some ⟨t, 0, none⟩) W W) (.slice (some ⟨b, 0, none⟩) W W) = some (.int .i64 (W : Int), H.set t (.cells (wordC us) 40 .ex)) := by
  subst h1
  unfold cpyV
  by_cases h0 : ws.length = 0
  · have e1 : ws = [] := List.length_eq_zero_iff.1 h0
    have e2 : us = [] := List.length_eq_zero_iff.1 (by omega)
    subst e1 e2
    have e3 : H.set t (.cells (wordC []) 40 .ex) = H := by
      cases H with
      | mk nx ob =>
        simp only [CH.set, CH.mk.injEq, true_and]
        funext x
        by_cases hx : x = t
        · subst hx; rw [if_pos rfl]; exact hT.symm
        · rw [if_neg hx]
    rw [e3]
    simp [wop, evF, srcCells]
  · have ha : (wordC us).all isCell = true := by simp [wordC, isCell]
    have hs : srcCells H 1 (.slice (some ⟨b, 0, none⟩) ws.length ws.length) = some (wordC us, ws.length) := by
      rw [src_r, if_neg h0, hB, srcR_c, if_pos (by rw [wordC_len]; omega)]
      simp only [List.drop_zero, Nat.mul_one]
      rw [List.take_of_length_le (by rw [wordC_len]; omega)]
    have hc : setCells (wordC ws) 0 ((wordC us).take (ws.length * 1)) = wordC us := by
      unfold setCells
      simp only [List.take_zero, List.nil_append, Nat.zero_add]
      rw [List.take_of_length_le (by rw [wordC_len]; omega), List.drop_of_length_le (by rw [wordC_len, wordC_len]; omega)]
      simp
    simp only [wop, evF, ↓reduceIte, hs, hT, Nat.min_self, if_neg h0, or_self, ha, hc, Nat.succ_ne_zero, Nat.one_ne_zero]
    rw [if_pos ⟨rfl, by rw [wordC_len]; omega, trivial⟩]
theorem live_round {K1 K : CH} {n W : Nat} {rows : List Nat} {mm : List (List Nat)} {tr cc ac l : Nat} {th : List Nat} {ch : Bool} {fr : Fr} {a : Nat} (hR : LS K1 n W rows mm K) (hT : LT tr cc th ch W K) (hac : K.ob ac = .cells [.int .i64 a] 3 .ex)
    (hn : rows.length = n) (hnl : n ≤ 9223372036854775807) (hWl : W ≤ 9223372036854775807) (hlo : ∀ x ∈ rows, x < tr) (htr : K1.nx + 2 ≤ tr) (hcc : tr + 1 < cc) (hca : cc < ac) (hal : ac < l) (hlK : l < K.nx) (ha : a < n)
    (hl : K.ob l = .loop .ready none fr (24, 0))
    (f5 : fr 5 = .pointer (some ⟨K1.nx + 1, 0, none⟩)) (f10 : fr 10 = .pointer (some ⟨tr + 1, 0, none⟩)) (f11 : fr 11 = .pointer (some ⟨cc, 0, none⟩)) (f12 : fr 12 = .pointer (some ⟨ac, 0, none⟩))
    {t : Int} (ht : 0 ≤ t ∧ t < n) {ws : List Int} {q : Option Addr} {c : Nat} (hw : SlAt 1 (CInt .i64) K q c ws) (hws : ∀ r ∈ ws, 0 ≤ r ∧ r < 64 * W) :
    WpY (tblG Try.prog LG GG) l [.int .i64 t, .slice q ws.length c] K fun u K' => u = .bool true ∧ ∃ us th' ch', LS K1 n W rows (mm.set a us) K' ∧ LT tr cc th' ch' W K' ∧ K'.ob l = .loop .ready none fr (24, 0) ∧
      Keeps (fun x => x = l ∨ x = tr ∨ x = cc ∨ x ∈ rows) K K' ∧ (∀ r, bitW us r = (bitM mm a r || (bitM mm t.toNat r && !decide ((r : Int) ∈ ws)))) ∧ (mm.getD a []).sum ≤ us.sum ∧ (ch' = true → ch = true ∨ (mm.getD a []).sum < us.sum) ∧ (ch' = false → ch = false ∧ us = mm.getD a []) := by
  obtain ⟨tn, htn⟩ : ∃ tn : Nat, t = (tn : Int) := ⟨t.toNat, by omega⟩
  subst htn
  have hnx := hR.nx
  have htl : tn < rows.length := by omega
  have hrt := hR.row tn htl
  have hgt := outC_get (W := W) (n := n) htl
  have hbt := hR.at htl
  have hbt' := hlo _ (getD_mem htl)
  have hwlt := hR.wl tn htl
  have hw64t := hR.w64 tn htl
  obtain ⟨bt, hbte⟩ : ∃ bt, rows.getD tn 0 = bt := ⟨_, rfl⟩
  rw [hbte] at hrt hgt hbt hbt'
  have hout := hR.out
  have hc5 := hR.c5
  have htc := hT.tc
  have htrr := hT.tr
  refine wpY_rG (by kernel_rfl) hl (by kernel_rfl) ?_; (conv in (rL _ _).1 => reduce); (conv in (rL _ _).2.1 => reduce); (conv in (rL _ _).2.2 => reduce); simp only [putPs, List.zip_cons_cons, List.zip_nil_right, List.zip_nil_left, List.foldl_cons, List.foldl_nil]
  have hcpy := cpyV_ok (H := K.set l (.loop .busy none fr (24, 0))) (t := tr) (b := bt) (by rw [set_get, if_neg (by omega)]; exact htrr) (by rw [set_get, if_neg (by omega)]; exact hrt) hT.len hwlt
  repeat' (first | (simp (disch := first | omega | (decide +kernel) | (repeat (first | assumption | exact HExt.refl _ | (refine HExt.set ?_ (by first | omega | (simp only [new_nx, set_nx]; omega)) _) | (refine HExt.new ?_ _)))) only [↓RD, RU, accW_t, accW_f, isW, ↓putF_get, ↓putF_none, ↓evF_t, ↓evF_c, ↓evF_f, new_nx, set_nx, new_get, set_get, getD_zero, getD_succ, u_not, pop, lop, aop, wop, resL, resV, tupleV, akV, isVal, isCell, Value.cells, List.map_cons, List.map_nil, Bool.not_true, Bool.not_false, Option.map_some, ↓reduceIte, Nat.reduceEqDiff, Nat.reduceAdd, Int.reduceOfNat, Int.reduceNegSucc, reduceCtorEq, List.getElem?_cons_zero, List.getElem?_cons_succ, List.length_cons, List.length_nil, srcR_c, src_n, src_v, src_s, bnd, lenV, capV, Option.isSome_none, Option.isNone_none, Option.isSome_some, Option.isNone_some, Bool.true_or, Bool.false_or, List.take_succ_cons, List.take_zero, List.drop_succ_cons, List.drop_zero, List.cons_append, List.nil_append, List.drop_nil, List.all_cons, List.all_nil, Bool.true_and, Kd.isRo, List.size_toArray, List.toList_toArray, bldV, Nat.reduceLeDiff, Int.reduceMul, Int.reduceAdd, Int.reduceSub, Int.reduceToNat, maxLen_eq, zeros_one, appS_some, appV_n, appV_v, appH_t, appH_f, Kd.isEx, Bool.false_and, partV, Nat.add_zero, Int.toNat_natCast, f5, f10, f11, f12, roundK_some hl, hc5, hout, hgt, htc, ↓w_cpyV, hcpy]) | (with_reducible refine condK_dec (fun _ => ?_) (fun _ => ?_)) | (with_reducible refine grd_dec (fun _ => ?_) (fun _ => ?_)) | (with_reducible refine egrd_dec (fun _ => ?_) (fun _ => ?_)))
  refine loop_w (fun m fr2 K2 => ∃ k th1, m = ws.length - k ∧ k ≤ ws.length ∧ fr2 89 = .int .i64 (k : Int) ∧ K2.nx = K.nx ∧ th1.length = W ∧ W64 th1 ∧ K2.ob tr = .cells (wordC th1) 40 .ex ∧ (∀ x, x ≠ tr → K2.ob x = (K.set l (.loop .busy none fr (24, 0))).ob x) ∧ ∀ r : Nat, bitW th1 r = (bitM mm tn r && !decide ((r : Int) ∈ ws.take k)))
    ⟨0, mm.getD tn [], rfl, Nat.zero_le _, by repeat' (first | (simp (disch := first | omega | (decide +kernel) | (repeat (first | assumption | exact HExt.refl _ | (refine HExt.set ?_ (by first | omega | (simp only [new_nx, set_nx]; omega)) _) | (refine HExt.new ?_ _)))) only [↓RD, RU, accW_t, accW_f, isW, ↓putF_get, ↓putF_none, ↓evF_t, ↓evF_c, ↓evF_f, new_nx, set_nx, new_get, set_get, getD_zero, getD_succ, u_not, pop, lop, aop, wop, resL, resV, tupleV, akV, isVal, isCell, Value.cells, List.map_cons, List.map_nil, Bool.not_true, Bool.not_false, Option.map_some, ↓reduceIte, Nat.reduceEqDiff, Nat.reduceAdd, Int.reduceOfNat, Int.reduceNegSucc, reduceCtorEq, List.getElem?_cons_zero, List.getElem?_cons_succ, List.length_cons, List.length_nil, srcR_c, src_n, src_v, src_s, bnd, lenV, capV, Option.isSome_none, Option.isNone_none, Option.isSome_some, Option.isNone_some, Bool.true_or, Bool.false_or, List.take_succ_cons, List.take_zero, List.drop_succ_cons, List.drop_zero, List.cons_append, List.nil_append, List.drop_nil, List.all_cons, List.all_nil, Bool.true_and, Kd.isRo, List.size_toArray, List.toList_toArray, bldV, Nat.reduceLeDiff, Int.reduceMul, Int.reduceAdd, Int.reduceSub, Int.reduceToNat, maxLen_eq, zeros_one, appS_some, appV_n, appV_v, appH_t, appH_f, Kd.isEx, Bool.false_and, partV, Nat.add_zero, Int.toNat_natCast]) | (with_reducible refine condK_dec (fun _ => ?_) (fun _ => ?_)) | (with_reducible refine grd_dec (fun _ => ?_) (fun _ => ?_)) | (with_reducible refine egrd_dec (fun _ => ?_) (fun _ => ?_))); rfl, rfl, hwlt, hw64t, by rw [set_get, if_pos rfl], fun x hx => by rw [set_get, if_neg hx], fun r => by simp [bitM]⟩ ?_
  rintro m fr2 K2 ⟨k, th1, rfl, hk, f89, hK2n, h1l, h1w, h1t, h1o, h1b⟩ hag
  by_cases hkl : k < ws.length
  case pos =>
    obtain ⟨bl, o, os, e, kd, hq, hl1, hc, hm, hob, hol, hos, hwf⟩ := hw.ints (by omega)
    rw [maxLen_eq] at hm
    have hrc := hos k hkl
    have hgk : ws.getD k 0 = ws[k] := by simp [List.getD, List.getElem?_eq_getElem hkl]
    subst hq
    have hnw : ∀ us : List Nat, os ≠ wordC us := fun us e => by
      have h := hos k hkl
      rw [e] at h
      unfold wordC at h
      rw [List.getElem?_map] at h
      cases hh : us[o + k]? with
      | none => rw [hh] at h; cases h
      | some z => rw [hh] at h; simp at h
    have hbl : bl ∉ rows ∧ bl ≠ tr ∧ bl ≠ cc := by
      refine ⟨fun h => ?_, fun h => ?_, fun h => ?_⟩
      · obtain ⟨i, hi, e⟩ := List.getElem_of_mem h
        have h1 := hR.row i hi
        have h2 : rows.getD i 0 = bl := by rw [← e]; simp [List.getD, List.getElem?_eq_getElem hi]
        rw [h2, hob] at h1
        cases h1
        exact hnw _ rfl
      · rw [h, htrr] at hob
        cases hob
        exact hnw _ rfl
      · rw [h, hT.cc] at hob
        cases hob
        have h3 := hos k hkl
        have h4 : o + k < 1 := by
          have := (List.getElem?_eq_some_iff.1 h3).1
          simpa using this
        have h5 : o + k = 0 := by omega
        rw [h5] at h3
        simp at h3
    have hbll : bl ≠ l := fun e => by rw [e, hl] at hob; cases hob
    have hob2 : K2.ob bl = .cells os e kd := by rw [h1o bl hbl.2.1, set_get, if_neg hbll]; exact hob
    have htc2 : K2.ob (tr + 1) = .cells [.slice (some ⟨tr, 0, none⟩) W W] 36 .ex := by rw [h1o _ (by omega), set_get, if_neg (by omega)]; exact htc
    obtain ⟨rn, hrn⟩ : ∃ rn : Nat, ws[k] = (rn : Int) := ⟨ws[k].toNat, by have := hws _ (List.getElem_mem hkl); omega⟩
    have hrlt := hws _ (List.getElem_mem hkl)
    rw [hgk, hrn] at hrc
    rw [hrn] at hrlt
    have hg1 := wordC_get (ws := th1) (i := rn / 64) (by omega)
    have hs1 := wordC_set (ws := th1) (i := rn / 64) (x := th1.getD (rn / 64) 0 ^^^ (th1.getD (rn / 64) 0 &&& 2 ^ (rn % 64))) (by omega)
    have hb1 := b_shlN (k := rn % 64) (by omega)
    have hb2 := b_andNotN (h1w.get (rn / 64)) (pow_lt (k := rn % 64) (by omega))
    have hq1 : (rn : Int) / 64 = ((rn / 64 : Nat) : Int) := by simp
    have hq2 : (rn : Int) % 64 = ((rn % 64 : Nat) : Int) := by simp
    repeat' (first | (simp (disch := first | omega | (decide +kernel) | (repeat (first | assumption | exact HExt.refl _ | (refine HExt.set ?_ (by first | omega | (simp only [new_nx, set_nx]; omega)) _) | (refine HExt.new ?_ _)))) only [↓RD, RU, accW_t, accW_f, isW, ↓putF_get, ↓putF_none, ↓evF_t, ↓evF_c, ↓evF_f, new_nx, set_nx, new_get, set_get, getD_zero, getD_succ, u_not, pop, lop, aop, wop, resL, resV, tupleV, akV, isVal, isCell, Value.cells, List.map_cons, List.map_nil, Bool.not_true, Bool.not_false, Option.map_some, ↓reduceIte, Nat.reduceEqDiff, Nat.reduceAdd, Int.reduceOfNat, Int.reduceNegSucc, reduceCtorEq, List.getElem?_cons_zero, List.getElem?_cons_succ, List.length_cons, List.length_nil, srcR_c, src_n, src_v, src_s, bnd, lenV, capV, Option.isSome_none, Option.isNone_none, Option.isSome_some, Option.isNone_some, Bool.true_or, Bool.false_or, List.take_succ_cons, List.take_zero, List.drop_succ_cons, List.drop_zero, List.cons_append, List.nil_append, List.drop_nil, List.all_cons, List.all_nil, Bool.true_and, Kd.isRo, List.size_toArray, List.toList_toArray, bldV, Nat.reduceLeDiff, Int.reduceMul, Int.reduceAdd, Int.reduceSub, Int.reduceToNat, maxLen_eq, zeros_one, appS_some, appV_n, appV_v, appH_t, appH_f, Kd.isEx, Bool.false_and, partV, Nat.add_zero, Int.toNat_natCast, f89, hag, f10, hob2, hrc, htc2, h1t, hg1, ↓hs1, hb1, hb2, hq1, hq2, wordC_len]) | (with_reducible refine condK_dec (fun _ => ?_) (fun _ => ?_)) | (with_reducible refine grd_dec (fun _ => ?_) (fun _ => ?_)) | (with_reducible refine egrd_dec (fun _ => ?_) (fun _ => ?_)))
    refine ⟨_, by omega, k + 1, th1.set (rn / 64) (th1.getD (rn / 64) 0 ^^^ (th1.getD (rn / 64) 0 &&& 2 ^ (rn % 64))), rfl, by omega, rfl, hK2n, by simp [h1l], h1w.set (xor_and_lt (h1w.get _)), rfl, fun x hx => by have h := h1o x hx; rw [set_get] at h; rw [if_neg hx]; exact h, fun r => ?_⟩
    rw [bitW_clr (by omega), h1b, List.take_add_one, List.getElem?_eq_getElem hkl, hrn]
    simp only [Option.toList_some, List.mem_append, List.mem_singleton]
    have : decide ((r : Int) ∈ ws.take k ∨ (r : Int) = (rn : Int)) = (decide ((r : Int) ∈ ws.take k) || decide (r = rn)) := by
      have e : ((r : Int) = (rn : Int)) ↔ r = rn := by omega
      rw [Bool.eq_iff_iff]; simp [e]
    rw [this]
    cases bitM mm tn r <;> cases decide ((r : Int) ∈ ws.take k) <;> cases decide (r = rn) <;> rfl
  case neg =>
    have htk : ws.take k = ws := List.take_of_length_le (by omega)
    rw [htk] at h1b
    have htc2 : K2.ob (tr + 1) = .cells [.slice (some ⟨tr, 0, none⟩) W W] 36 .ex := by rw [h1o _ (by omega), set_get, if_neg (by omega)]; exact htc
    repeat' (first | (simp (disch := first | omega | (decide +kernel) | (repeat (first | assumption | exact HExt.refl _ | (refine HExt.set ?_ (by first | omega | (simp only [new_nx, set_nx]; omega)) _) | (refine HExt.new ?_ _)))) only [↓RD, RU, accW_t, accW_f, isW, ↓putF_get, ↓putF_none, ↓evF_t, ↓evF_c, ↓evF_f, new_nx, set_nx, new_get, set_get, getD_zero, getD_succ, u_not, pop, lop, aop, wop, resL, resV, tupleV, akV, isVal, isCell, Value.cells, List.map_cons, List.map_nil, Bool.not_true, Bool.not_false, Option.map_some, ↓reduceIte, Nat.reduceEqDiff, Nat.reduceAdd, Int.reduceOfNat, Int.reduceNegSucc, reduceCtorEq, List.getElem?_cons_zero, List.getElem?_cons_succ, List.length_cons, List.length_nil, srcR_c, src_n, src_v, src_s, bnd, lenV, capV, Option.isSome_none, Option.isNone_none, Option.isSome_some, Option.isNone_some, Bool.true_or, Bool.false_or, List.take_succ_cons, List.take_zero, List.drop_succ_cons, List.drop_zero, List.cons_append, List.nil_append, List.drop_nil, List.all_cons, List.all_nil, Bool.true_and, Kd.isRo, List.size_toArray, List.toList_toArray, bldV, Nat.reduceLeDiff, Int.reduceMul, Int.reduceAdd, Int.reduceSub, Int.reduceToNat, maxLen_eq, zeros_one, appS_some, appV_n, appV_v, appH_t, appH_f, Kd.isEx, Bool.false_and, partV, Nat.add_zero, Int.toNat_natCast, f89, hag, f10, htc2]) | (with_reducible refine condK_dec (fun _ => ?_) (fun _ => ?_)) | (with_reducible refine grd_dec (fun _ => ?_) (fun _ => ?_)) | (with_reducible refine egrd_dec (fun _ => ?_) (fun _ => ?_)))
    have hla := hR.at (show a < rows.length by omega)
    have hla' := hlo _ (getD_mem (show a < rows.length by omega))
    have hga := outC_get (W := W) (n := n) (show a < rows.length by omega)
    obtain ⟨ba, hba⟩ : ∃ ba, rows.getD a 0 = ba := ⟨_, rfl⟩
    rw [hba] at hla hla' hga
    have hbb : ∀ x, x ≠ l → x ≠ tr → K2.ob x = K.ob x := fun x h1 h2 => by rw [h1o x h2, set_get, if_neg h1]
    have hR2 : LS K1 n W rows mm K2 := hR.mv (by omega) fun x hx h => hbb x (fun e => by
      rcases h with h | h
      · omega
      · have := hlo x h; omega) (fun e => by
      rcases h with h | h
      · omega
      · have := hlo x h; omega)
    have hcc2 : K2.ob cc = .cells [.bool ch] 4 .ex := by rw [hbb _ (by omega) (by omega)]; exact hT.cc
    have hac2 : K2.ob ac = .cells [.int .i64 a] 3 .ex := by rw [hbb _ (by omega) (by omega)]; exact hac
    have hl2 : K2.ob l = .loop .busy none fr (24, 0) := by rw [h1o _ (by omega), set_get, if_pos rfl]
    obtain ⟨us0, hus0⟩ : ∃ us0, mm.getD a [] = us0 := ⟨_, rfl⟩
    have hus0l : us0.length = W := by rw [← hus0]; exact hR.wl a (by omega)
    have hus0w : W64 us0 := by rw [← hus0]; exact hR.w64 a (by omega)
    have hmml : a < mm.length := by rw [← hR.len]; omega
    have hmms : mm.set a us0 = mm := by
      apply List.ext_getElem (by simp)
      intro i h1 h2
      rw [List.getElem_set]
      split
      · rename_i e; subst e; rw [← hus0]; simp [List.getD, List.getElem?_eq_getElem h2]
      · rfl
    refine loop_w (fun m fr3 K3 => ∃ k us ch', m = W - k ∧ k ≤ W ∧ fr3 106 = .int .i64 (k : Int) ∧ K3.nx = K2.nx ∧ LS K1 n W rows (mm.set a us) K3 ∧ us.length = W ∧ W64 us ∧ K3.ob cc = .cells [.bool ch'] 4 .ex ∧ (∀ x, x ≠ cc → x ≠ ba → K3.ob x = K2.ob x) ∧
        (∀ i, us.getD i 0 = if i < k then us0.getD i 0 ||| th1.getD i 0 else us0.getD i 0) ∧ us0.sum ≤ us.sum ∧ (ch' = true → ch = true ∨ us0.sum < us.sum) ∧ (ch' = false → ch = false ∧ us = us0))
      ⟨0, us0, ch, rfl, Nat.zero_le _, by repeat' (first | (simp (disch := first | omega | (decide +kernel) | (repeat (first | assumption | exact HExt.refl _ | (refine HExt.set ?_ (by first | omega | (simp only [new_nx, set_nx]; omega)) _) | (refine HExt.new ?_ _)))) only [↓RD, RU, accW_t, accW_f, isW, ↓putF_get, ↓putF_none, ↓evF_t, ↓evF_c, ↓evF_f, new_nx, set_nx, new_get, set_get, getD_zero, getD_succ, u_not, pop, lop, aop, wop, resL, resV, tupleV, akV, isVal, isCell, Value.cells, List.map_cons, List.map_nil, Bool.not_true, Bool.not_false, Option.map_some, ↓reduceIte, Nat.reduceEqDiff, Nat.reduceAdd, Int.reduceOfNat, Int.reduceNegSucc, reduceCtorEq, List.getElem?_cons_zero, List.getElem?_cons_succ, List.length_cons, List.length_nil, srcR_c, src_n, src_v, src_s, bnd, lenV, capV, Option.isSome_none, Option.isNone_none, Option.isSome_some, Option.isNone_some, Bool.true_or, Bool.false_or, List.take_succ_cons, List.take_zero, List.drop_succ_cons, List.drop_zero, List.cons_append, List.nil_append, List.drop_nil, List.all_cons, List.all_nil, Bool.true_and, Kd.isRo, List.size_toArray, List.toList_toArray, bldV, Nat.reduceLeDiff, Int.reduceMul, Int.reduceAdd, Int.reduceSub, Int.reduceToNat, maxLen_eq, zeros_one, appS_some, appV_n, appV_v, appH_t, appH_f, Kd.isEx, Bool.false_and, partV, Nat.add_zero, Int.toNat_natCast]) | (with_reducible refine condK_dec (fun _ => ?_) (fun _ => ?_)) | (with_reducible refine grd_dec (fun _ => ?_) (fun _ => ?_)) | (with_reducible refine egrd_dec (fun _ => ?_) (fun _ => ?_))); rfl, rfl, by rw [hmms]; exact hR2, hus0l, hus0w, hcc2, fun x _ _ => rfl, fun i => by simp, Nat.le_refl _, fun h => .inl h, fun h => ⟨h, rfl⟩⟩ ?_
    rintro m fr3 K3 ⟨k3, us, ch', rfl, hk3, f106, hK3n, hR3, husl, husw, hcc3, hK3, hus, hsum, hch1, hch2⟩ hag3
    by_cases hkl3 : k3 < W
    case neg =>
      repeat' (first | (simp (disch := first | omega | (decide +kernel) | (repeat (first | assumption | exact HExt.refl _ | (refine HExt.set ?_ (by first | omega | (simp only [new_nx, set_nx]; omega)) _) | (refine HExt.new ?_ _)))) only [↓RD, RU, accW_t, accW_f, isW, ↓putF_get, ↓putF_none, ↓evF_t, ↓evF_c, ↓evF_f, new_nx, set_nx, new_get, set_get, getD_zero, getD_succ, u_not, pop, lop, aop, wop, resL, resV, tupleV, akV, isVal, isCell, Value.cells, List.map_cons, List.map_nil, Bool.not_true, Bool.not_false, Option.map_some, ↓reduceIte, Nat.reduceEqDiff, Nat.reduceAdd, Int.reduceOfNat, Int.reduceNegSucc, reduceCtorEq, List.getElem?_cons_zero, List.getElem?_cons_succ, List.length_cons, List.length_nil, srcR_c, src_n, src_v, src_s, bnd, lenV, capV, Option.isSome_none, Option.isNone_none, Option.isSome_some, Option.isNone_some, Bool.true_or, Bool.false_or, List.take_succ_cons, List.take_zero, List.drop_succ_cons, List.drop_zero, List.cons_append, List.nil_append, List.drop_nil, List.all_cons, List.all_nil, Bool.true_and, Kd.isRo, List.size_toArray, List.toList_toArray, bldV, Nat.reduceLeDiff, Int.reduceMul, Int.reduceAdd, Int.reduceSub, Int.reduceToNat, maxLen_eq, zeros_one, appS_some, appV_n, appV_v, appH_t, appH_f, Kd.isEx, Bool.false_and, partV, Nat.add_zero, Int.toNat_natCast, f106, hag3]) | (with_reducible refine condK_dec (fun _ => ?_) (fun _ => ?_)) | (with_reducible refine grd_dec (fun _ => ?_) (fun _ => ?_)) | (with_reducible refine egrd_dec (fun _ => ?_) (fun _ => ?_)))
      have hl3 : K3.ob l = .loop .busy none fr (24, 0) := by rw [hK3 _ (by omega) (by omega)]; exact hl2
      refine (endK_n hl3).2 ?_
      have hfin : ∀ x, x ≠ l → x ≠ tr → x ≠ cc → x ≠ ba → (K3.set l (.loop .ready none fr (24, 0))).ob x = K.ob x := fun x h1 h2 h3 h4 => by rw [set_get, if_neg h1, hK3 x h3 h4, hbb x h1 h2]
      have hne : ∀ x, x ≠ l → (K3.set l (.loop .ready none fr (24, 0))).ob x = K3.ob x := fun x h1 => by rw [set_get, if_neg h1]
      refine ⟨rfl, us, th1, ch', hR3.mv (Nat.le_refl _) fun x hx h => hne x (fun e => ?_), ⟨?_, ?_, h1l, h1w, ?_⟩, by rw [set_get, if_pos rfl], ⟨by simp only [set_nx]; omega, fun x hx hx2 => ?_⟩, fun r => ?_, by rw [hus0]; exact hsum, by rw [hus0]; exact hch1, by rw [hus0]; exact hch2⟩
      · rcases h with h | h
        · omega
        · have := hlo x h; omega
      · rw [hfin _ (by omega) (by omega) (by omega) (by omega)]; exact htc
      · rw [hne _ (by omega), hK3 _ (by omega) (by omega)]; exact h1t
      · rw [hne _ (by omega)]; exact hcc3
      · simp only [not_or] at hx2
        exact hfin x hx2.1 hx2.2.1 hx2.2.2.1 fun e => hx2.2.2.2 (by rw [e, ← hba]; exact getD_mem (by omega))
      · rw [← h1b r]
        unfold bitM bitW
        rw [hus0, hus]
        by_cases h : r / 64 < k3
        · rw [if_pos h, Nat.testBit_or]
        · rw [if_neg h]
          have : th1.getD (r / 64) 0 = 0 := by rw [List.getD_eq_getElem?_getD, List.getElem?_eq_none (by omega)]; rfl
          rw [this]; simp
    have hgx := wordC_get (ws := th1) (i := k3) (by omega)
    have hgu := wordC_get (ws := us) (i := k3) (by omega)
    have hrow3 := hR3.row a (by omega)
    rw [hba, getD_setM hmml, if_pos rfl] at hrow3
    have hout3 := hR3.out
    have hc53 := hR3.c5
    have hac3 : K3.ob ac = .cells [.int .i64 a] 3 .ex := by rw [hK3 _ (by omega) (by omega)]; exact hac2
    have htr3 : K3.ob tr = .cells (wordC th1) 40 .ex := by rw [hK3 _ (by omega) (by omega)]; exact h1t
    have hb3 := b_andNotN (h1w.get k3) (husw.get k3)
    have hb4 := b_orN (husw.get k3) (h1w.get k3)
    have hs3 := wordC_set (ws := us) (i := k3) (x := us.getD k3 0 ||| th1.getD k3 0) (by omega)
    by_cases hz : th1.getD k3 0 ^^^ (th1.getD k3 0 &&& us.getD k3 0) = 0
    · rw [hz] at hb3
      repeat' (first | (simp (disch := first | omega | (decide +kernel) | (repeat (first | assumption | exact HExt.refl _ | (refine HExt.set ?_ (by first | omega | (simp only [new_nx, set_nx]; omega)) _) | (refine HExt.new ?_ _)))) only [↓RD, RU, accW_t, accW_f, isW, ↓putF_get, ↓putF_none, ↓evF_t, ↓evF_c, ↓evF_f, new_nx, set_nx, new_get, set_get, getD_zero, getD_succ, u_not, pop, lop, aop, wop, resL, resV, tupleV, akV, isVal, isCell, Value.cells, List.map_cons, List.map_nil, Bool.not_true, Bool.not_false, Option.map_some, ↓reduceIte, Nat.reduceEqDiff, Nat.reduceAdd, Int.reduceOfNat, Int.reduceNegSucc, reduceCtorEq, List.getElem?_cons_zero, List.getElem?_cons_succ, List.length_cons, List.length_nil, srcR_c, src_n, src_v, src_s, bnd, lenV, capV, Option.isSome_none, Option.isNone_none, Option.isSome_some, Option.isNone_some, Bool.true_or, Bool.false_or, List.take_succ_cons, List.take_zero, List.drop_succ_cons, List.drop_zero, List.cons_append, List.nil_append, List.drop_nil, List.all_cons, List.all_nil, Bool.true_and, Kd.isRo, List.size_toArray, List.toList_toArray, bldV, Nat.reduceLeDiff, Int.reduceMul, Int.reduceAdd, Int.reduceSub, Int.reduceToNat, maxLen_eq, zeros_one, appS_some, appV_n, appV_v, appH_t, appH_f, Kd.isEx, Bool.false_and, partV, Nat.add_zero, Int.toNat_natCast, f106, hag3, hag, f5, f10, f11, f12, hgx, hgu, hrow3, hout3, hc53, hac3, htr3, hb3, hga]) | (with_reducible refine condK_dec (fun _ => ?_) (fun _ => ?_)) | (with_reducible refine grd_dec (fun _ => ?_) (fun _ => ?_)) | (with_reducible refine egrd_dec (fun _ => ?_) (fun _ => ?_)))
      refine ⟨_, by omega, k3 + 1, us, ch', rfl, by omega, rfl, hK3n, hR3, husl, husw, hcc3, hK3, fun i => ?_, hsum, hch1, hch2⟩
      rw [hus i]
      by_cases e : i = k3
      · subst e
        rw [if_neg (by omega), if_pos (by omega)]
        have h1 := or_stay hz
        have h2 := hus i
        rw [if_neg (by omega)] at h2
        rw [h2] at h1
        exact h1.symm
      · by_cases h : i < k3
        · rw [if_pos h, if_pos (by omega)]
        · rw [if_neg h, if_neg (by omega)]
    · repeat' (first | (simp (disch := first | omega | (decide +kernel) | (repeat (first | assumption | exact HExt.refl _ | (refine HExt.set ?_ (by first | omega | (simp only [new_nx, set_nx]; omega)) _) | (refine HExt.new ?_ _)))) only [↓RD, RU, accW_t, accW_f, isW, ↓putF_get, ↓putF_none, ↓evF_t, ↓evF_c, ↓evF_f, new_nx, set_nx, new_get, set_get, getD_zero, getD_succ, u_not, pop, lop, aop, wop, resL, resV, tupleV, akV, isVal, isCell, Value.cells, List.map_cons, List.map_nil, Bool.not_true, Bool.not_false, Option.map_some, ↓reduceIte, Nat.reduceEqDiff, Nat.reduceAdd, Int.reduceOfNat, Int.reduceNegSucc, reduceCtorEq, List.getElem?_cons_zero, List.getElem?_cons_succ, List.length_cons, List.length_nil, srcR_c, src_n, src_v, src_s, bnd, lenV, capV, Option.isSome_none, Option.isNone_none, Option.isSome_some, Option.isNone_some, Bool.true_or, Bool.false_or, List.take_succ_cons, List.take_zero, List.drop_succ_cons, List.drop_zero, List.cons_append, List.nil_append, List.drop_nil, List.all_cons, List.all_nil, Bool.true_and, Kd.isRo, List.size_toArray, List.toList_toArray, bldV, Nat.reduceLeDiff, Int.reduceMul, Int.reduceAdd, Int.reduceSub, Int.reduceToNat, maxLen_eq, zeros_one, appS_some, appV_n, appV_v, appH_t, appH_f, Kd.isEx, Bool.false_and, partV, Nat.add_zero, Int.toNat_natCast, f106, hag3, hag, f5, f10, f11, f12, hgx, hgu, hrow3, hout3, hc53, hac3, htr3, hb3, hb4, ↓hs3, hga, wordC_len, husl, hcc3]) | (with_reducible refine condK_dec (fun _ => ?_) (fun _ => ?_)) | (with_reducible refine grd_dec (fun _ => ?_) (fun _ => ?_)) | (with_reducible refine egrd_dec (fun _ => ?_) (fun _ => ?_)))
      have hR4 := hR3.put hba (by omega) (ws := us.set k3 (us.getD k3 0 ||| th1.getD k3 0)) (by simp [husl]) (husw.set (or_lt (husw.get _) (h1w.get _)))
      rw [List.set_set] at hR4
      have hsm := sum_set (l := us) (i := k3) (x := us.getD k3 0 ||| th1.getD k3 0) (by omega)
      have hmore := or_more hz
      refine ⟨_, by omega, k3 + 1, us.set k3 (us.getD k3 0 ||| th1.getD k3 0), true, rfl, by omega, rfl, hK3n, hR4.mv (Nat.le_refl _) fun x hx h => ?_, by simp [husl], husw.set (or_lt (husw.get _) (h1w.get _)), by simp, fun x h1 h2 => by simp only [if_neg h1, if_neg h2]; exact hK3 x h1 h2, fun i => ?_, by omega, fun _ => .inr (by omega), fun h => by cases h⟩
      · rw [set_get, if_neg]
        rintro rfl
        rcases h with h | h
        · omega
        · have := hlo _ h; omega
      · simp only [List.getD_eq_getElem?_getD, List.getElem?_set]
        simp only [List.getD_eq_getElem?_getD] at hus
        by_cases e : i = k3
        · subst e
          have h2 := hus i
          rw [if_neg (by omega)] at h2
          rw [if_pos rfl, if_pos (by omega), if_pos (by omega), Option.getD_some, h2]
        · rw [if_neg (by omega), hus i]
          by_cases h : i < k3
          · rw [if_pos h, if_pos (by omega)]
          · rw [if_neg h, if_neg (by omega)]
end Can
end Go.Proofs.Ytapcoeecjlkdgaa
