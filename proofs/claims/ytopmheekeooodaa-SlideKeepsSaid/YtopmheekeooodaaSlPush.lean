/- Slide: addresses, sizes, the closure that marks one object, the iterators. -/
import Derived.Test.YtopmheekeooodaaSlMk
import Derived.Test.YtopmheekeooodaaSlCopy
import Derived.Test.YtopmheekeooodaaCanRun
namespace Go.Proofs.Ytopmheekeooodaa
namespace Can
open Go Go.RowKit
set_option linter.unusedSimpArgs false
set_option linter.unusedVariables false
set_option maxRecDepth 4000
/-- A row of words, as a function. -/
def fnW (n : Nat) (f : Nat → Int) : List Value := (List.range n).map fun i => Value.int .u64 (f i)
theorem fnW_len {n : Nat} {f : Nat → Int} : (fnW n f).length = n := by simp [fnW]
theorem fnW_get {n i : Nat} {f : Nat → Int} (h : i < n) : (fnW n f)[i]? = some (.int .u64 (f i)) := by simp [fnW, List.getElem?_range h]
theorem fnW_ext {n : Nat} {f g : Nat → Int} (h : ∀ i, i < n → f i = g i) : fnW n f = fnW n g := by
  unfold fnW
  apply List.map_congr_left
  intro i hi
  rw [h i (List.mem_range.1 hi)]
theorem fnW_set {n i : Nat} {f : Nat → Int} {x : Int} (h : i < n) : setCells (fnW n f) i [.int .u64 x] = fnW n (upF f i x) := by
  have : setCells (fnW n f) i [.int .u64 x] = (fnW n f).set i (.int .u64 x) := by
    unfold setCells
    rw [List.set_eq_take_append_cons_drop, if_pos (by rw [fnW_len]; exact h)]
    simp
  rw [this]
  apply List.ext_getElem?
  intro j
  rw [List.getElem?_set]
  by_cases hj : j < n
  · rw [fnW_get hj, fnW_get hj, fnW_len]
    unfold upF
    by_cases e : i = j
    · subst e; simp [h]
    · rw [if_neg e, if_neg (fun e' => e e'.symm)]
  · rw [List.getElem?_eq_none (l := fnW n (upF f i x)) (by rw [fnW_len]; omega), List.getElem?_eq_none (l := fnW n f) (by rw [fnW_len]; omega), if_neg (by omega)]
theorem fnW_of (ws : List Int) : ws.map (Value.int .u64) = fnW ws.length (wd ws) := by
  apply List.ext_getElem?
  intro i
  by_cases h : i < ws.length
  · rw [fnW_get h, get_map (d := 0) h]; rfl
  · rw [List.getElem?_eq_none (by simp; omega), List.getElem?_eq_none (by rw [fnW_len]; omega)]
theorem fnW_cells {n : Nat} {f : Nat → Int} : (fnW n f).all isCell = true := by simp [fnW, isCell]
theorem and63_lo {x : Int} (h0 : 0 ≤ x) (h1 : x < 9223372036854775808) : svOf (binOp .and 0 (.int .u64 x) (.int .u64 9223372036854775808)) = some (.int .u64 0) := by
  rw [b_and_u64 h0 (by omega) (by decide) (by decide)]
  congr 2
  show ((x.toNat &&& 2 ^ 63 : Nat) : Int) = 0
  have : x.toNat &&& 2 ^ 63 = 0 := by
    apply Nat.eq_of_testBit_eq
    intro i
    rw [Nat.testBit_and, Nat.testBit_two_pow, Nat.zero_testBit]
    by_cases e : 63 = i
    · subst e; rw [Nat.testBit_lt_two_pow (by omega)]; rfl
    · rw [decide_eq_false e, Bool.and_false]
  rw [this]; rfl
theorem and63_hi {x : Int} (h0 : 9223372036854775808 ≤ x) (h1 : x < 18446744073709551616) : svOf (binOp .and 0 (.int .u64 x) (.int .u64 9223372036854775808)) = some (.int .u64 9223372036854775808) := by
  rw [b_and_u64 (by omega) h1 (by decide) (by decide)]
  congr 2
  show ((x.toNat &&& 2 ^ 63 : Nat) : Int) = 9223372036854775808
  have h63 : x.toNat.testBit 63 = true := by
    rw [Nat.testBit_eq_decide_div_mod_eq]
    exact decide_eq_true (by omega)
  have : x.toNat &&& 2 ^ 63 = 2 ^ 63 := by
    apply Nat.eq_of_testBit_eq
    intro i
    rw [Nat.testBit_and, Nat.testBit_two_pow]
    by_cases e : 63 = i
    · subst e; rw [h63]; rfl
    · rw [decide_eq_false e, Bool.and_false]
  rw [this]; rfl
theorem or63 {x : Int} (h0 : 0 ≤ x) (h1 : x < 9223372036854775808) : svOf (binOp .or 0 (.int .u64 x) (.int .u64 9223372036854775808)) = some (.int .u64 (x + mkB)) :=
  b_joinr 63 (by decide) (by decide) h0 h1 (by omega) (by decide)
/-- Where a word leads. -/
def adI (w : Int) : Int := if w % 4 = 0 then w / 4 else 0
theorem address_wp (w : Int) (H : CH) (h0 : 0 ≤ w) (h1 : w < 18446744073709551616) : WpF (tblG Try.prog LG GG) 20 [.int .u64 w] H fun v K => v = .int .i64 (adI w) ∧ K = H := by
  refine wpF_rG (by rfl) (by kernel_rfl) ?_; (conv in (rF _ _).body => reduce); (conv in (rF _ _).res => reduce)
  by_cases h : w % 4 = 0
  · repeat' (first | (simp (disch := first | omega | (decide +kernel) | (repeat first | assumption | exact HExt.refl _ | refine HExt.set ?_ (by first | omega | (simp only [new_nx, set_nx]; omega)) _ | refine HExt.new ?_ _)) only [↓RD, RU, accW_t, accW_f, isW, ↓putF_get, ↓putF_none, ↓evF_t, ↓evF_c, ↓evF_f, new_nx, set_nx, new_get, set_get, getD_zero, getD_succ, u_not, pop, lop, aop, wop, resL, resV, tupleV, akV, isVal, isCell, Value.cells, ρ0, ρ1, ρ2, ρ3, ρ4, ↓reduceIte, Nat.reduceEqDiff, Nat.reduceAdd, Int.reduceOfNat, Int.reduceNegSucc, reduceCtorEq, ρ5, ρ6, ρ7, ρ8, srcR_c, src_n, src_v, src_s, bnd, lenV, capV, ρ9, ρ10, ρ11, ρ12, ρ13, ρ14, ρ15, ρ16, ρ17, ρ18, ρ19, ρ20, ρ21, ρ22, ρ23, ρ24, Kd.isRo, ρ25, ρ26, bldV, Nat.reduceLeDiff, Int.reduceMul, Int.reduceAdd, Int.reduceSub, Int.reduceToNat, maxLen_eq, zeros_one, appS_some, appV_n, appV_v, appH_t, appH_f, Kd.isEx, ρ27, partV, CH.set_set, lkV, lkR, isKey, mupV, nxtV, ρ28, ρ29, h]) | (with_reducible first | refine condK_dec (fun _ => ?_) fun _ => ?_ | refine grd_dec (fun _ => ?_) fun _ => ?_ | refine egrd_dec (fun _ => ?_) fun _ => ?_))
    all_goals (unfold adI; rw [if_pos h])
  · repeat' (first | (simp (disch := first | omega | (decide +kernel) | (repeat first | assumption | exact HExt.refl _ | refine HExt.set ?_ (by first | omega | (simp only [new_nx, set_nx]; omega)) _ | refine HExt.new ?_ _)) only [↓RD, RU, accW_t, accW_f, isW, ↓putF_get, ↓putF_none, ↓evF_t, ↓evF_c, ↓evF_f, new_nx, set_nx, new_get, set_get, getD_zero, getD_succ, u_not, pop, lop, aop, wop, resL, resV, tupleV, akV, isVal, isCell, Value.cells, ρ0, ρ1, ρ2, ρ3, ρ4, ↓reduceIte, Nat.reduceEqDiff, Nat.reduceAdd, Int.reduceOfNat, Int.reduceNegSucc, reduceCtorEq, ρ5, ρ6, ρ7, ρ8, srcR_c, src_n, src_v, src_s, bnd, lenV, capV, ρ9, ρ10, ρ11, ρ12, ρ13, ρ14, ρ15, ρ16, ρ17, ρ18, ρ19, ρ20, ρ21, ρ22, ρ23, ρ24, Kd.isRo, ρ25, ρ26, bldV, Nat.reduceLeDiff, Int.reduceMul, Int.reduceAdd, Int.reduceSub, Int.reduceToNat, maxLen_eq, zeros_one, appS_some, appV_n, appV_v, appH_t, appH_f, Kd.isEx, ρ27, partV, CH.set_set, lkV, lkR, isKey, mupV, nxtV, ρ28, ρ29, h]) | (with_reducible first | refine condK_dec (fun _ => ?_) fun _ => ?_ | refine grd_dec (fun _ => ?_) fun _ => ?_ | refine egrd_dec (fun _ => ?_) fun _ => ?_))
    all_goals (unfold adI; rw [if_neg h])
theorem address_iff {w : Int} {H : CH} {Q : Value → CH → Prop} (h0 : 0 ≤ w) (h1 : w < 18446744073709551616) : WpF (tblG Try.prog LG GG) 20 [.int .u64 w] H Q ↔ Q (.int .i64 (adI w)) H := wpF_iff (address_wp w H h0 h1)
theorem size_wp (w : Int) (H : CH) (h0 : 0 ≤ w) (h1 : w < 18446744073709551616) : WpF (tblG Try.prog LG GG) 18 [.int .u64 w] H fun v K => v = .int .i64 (hdS w) ∧ K = H := by
  refine wpF_rG (by rfl) (by kernel_rfl) ?_; (conv in (rF _ _).body => reduce); (conv in (rF _ _).res => reduce)
  repeat' (first | (simp (disch := first | omega | (decide +kernel) | (repeat first | assumption | exact HExt.refl _ | refine HExt.set ?_ (by first | omega | (simp only [new_nx, set_nx]; omega)) _ | refine HExt.new ?_ _)) only [↓RD, RU, accW_t, accW_f, isW, ↓putF_get, ↓putF_none, ↓evF_t, ↓evF_c, ↓evF_f, new_nx, set_nx, new_get, set_get, getD_zero, getD_succ, u_not, pop, lop, aop, wop, resL, resV, tupleV, akV, isVal, isCell, Value.cells, ρ0, ρ1, ρ2, ρ3, ρ4, ↓reduceIte, Nat.reduceEqDiff, Nat.reduceAdd, Int.reduceOfNat, Int.reduceNegSucc, reduceCtorEq, ρ5, ρ6, ρ7, ρ8, srcR_c, src_n, src_v, src_s, bnd, lenV, capV, ρ9, ρ10, ρ11, ρ12, ρ13, ρ14, ρ15, ρ16, ρ17, ρ18, ρ19, ρ20, ρ21, ρ22, ρ23, ρ24, Kd.isRo, ρ25, ρ26, bldV, Nat.reduceLeDiff, Int.reduceMul, Int.reduceAdd, Int.reduceSub, Int.reduceToNat, maxLen_eq, zeros_one, appS_some, appV_n, appV_v, appH_t, appH_f, Kd.isEx, ρ27, partV, CH.set_set, lkV, lkR, isKey, mupV, nxtV, ρ28, ρ29]) | (with_reducible first | refine condK_dec (fun _ => ?_) fun _ => ?_ | refine grd_dec (fun _ => ?_) fun _ => ?_ | refine egrd_dec (fun _ => ?_) fun _ => ?_))
  all_goals first | exact ⟨rfl, rfl⟩ | rfl
theorem size_iff {w : Int} {H : CH} {Q : Value → CH → Prop} (h0 : 0 ≤ w) (h1 : w < 18446744073709551616) : WpF (tblG Try.prog LG GG) 18 [.int .u64 w] H Q ↔ Q (.int .i64 (hdS w)) H := wpF_iff (size_wp w H h0 h1)
theorem adI_of {w : Int} (h0 : 0 ≤ w) (h1 : w < 18446744073709551616) (hk : kindF w ≠ 3) : adI w = if kindF w = 0 then (adr w : Int) else 0 := by
  unfold adI adr
  unfold kindF at *
  by_cases h4 : w % 4 = 0
  · rw [if_pos h4]
    rw [if_pos h4] at hk ⊢
    by_cases ha : okA (w / 4) = true
    · rw [if_pos ha, if_pos rfl]; omega
    · rw [if_neg ha] at hk; exact absurd rfl hk
  · rw [if_neg h4, if_neg]
    rw [if_neg h4]
    split
    · split <;> decide
    · split
      · split <;> decide
      · decide
theorem kind0_pos {w : Int} (hk : kindF w = 0) : 1 ≤ adr w ∧ w = 4 * (adr w : Int) := by
  unfold kindF at hk
  by_cases h4 : w % 4 = 0
  · rw [if_pos h4] at hk
    by_cases ha : okA (w / 4) = true
    · unfold okA at ha
      have := of_decide_eq_true ha
      unfold adr; omega
    · rw [if_neg ha] at hk; cases hk
  · rw [if_neg h4] at hk
    split at hk
    · split at hk <;> cases hk
    · split at hk
      · split at hk <;> cases hk
      · cases hk
/-- The memory amid marking. -/
structure MkM (K : CH) (b pw ph n c : Nat) (kd : Kd) (f : Nat → Int) (h : Nat) : Prop where
  row : K.ob b = .cells (fnW n f) 42 kd
  ro : kd.isRo = false
  w : K.ob pw = .cells [.slice (some ⟨b, 0, none⟩) n c] 22 .ex
  hd : K.ob ph = .cells [.int .i64 h] 3 .ex
  n1 : b ≠ pw
  n2 : b ≠ ph
  n3 : pw ≠ ph
theorem head_lt {ws : List Int} {tn : Nat} {ls : List Nat} (hF : Form ws tn ls) {a : Nat} (ha : a ∈ ls) : 0 ≤ wd ws a ∧ wd ws a < 72057594037927936 := by
  have := (isObj_sz (hF.ob a ha)).2.2.2.2.1
  omega
theorem obj_lt2 {ws : List Int} {tn : Nat} {ls : List Nat} (hF : Form ws tn ls) {a : Nat} (ha : a ∈ ls) : 1 ≤ a ∧ a + 1 < ws.length ∧ a < 1048576 := by
  have h1 := hF.ch.mem a ha
  have := hF.top
  have := hF.len
  omega
/-- What the closure leaves behind. -/
def PushTo (K : CH) (b pw ph n c : Nat) (kd : Kd) (ws roots : List Int) (ls : List Nat) (S st : List Nat) (ex : Nat → Nat → Prop) (a : Nat) (K' : CH) : Prop :=
  ∃ f' S' st' h', MkM K' b pw ph n c kd f' h' ∧ MI ws roots ls f' S' st' h' ex ∧ (a ≠ 0 → a ∈ S') ∧ (∀ y ∈ S, y ∈ S') ∧
      2 * (ls.length - S'.length) + st'.length ≤ 2 * (ls.length - S.length) + st.length ∧ K'.nx = K.nx ∧ ∀ y, y ≠ b → y ≠ ph → K'.ob y = K.ob y
theorem push_wp {K : CH} {b pw ph n c : Nat} {kd : Kd} {ws roots : List Int} {tn : Nat} {ls : List Nat} {f : Nat → Int} {S st : List Nat} {h : Nat} {ex : Nat → Nat → Prop} (hF : Form ws tn ls) (hn : n = ws.length) (hM : MkM K b pw ph n c kd f h) (m : MI ws roots ls f S st h ex) {x : Int} {a : Nat} (hx : x = (a : Int)) (ha : a ≠ 0 → a ∈ ls ∧ Rc ws roots a) :
    WpF (tblG Try.prog LG GG) 26 [.int .i64 x, .pointer (some ⟨pw, 0, none⟩), .pointer (some ⟨ph, 0, none⟩)] K fun _ K' => PushTo K b pw ph n c kd ws roots ls S st ex a K' := by
  subst hx
  have hw := hM.w
  have hh := hM.hd
  have hr := hM.row
  have hro := hM.ro
  have n1 := hM.n1
  have n2 := hM.n2
  have n3 := hM.n3
  by_cases h0 : a = 0
  · subst h0
    refine wpF_rG (by rfl) (by kernel_rfl) ?_; (conv in (rF _ _).body => reduce); (conv in (rF _ _).res => reduce)
    repeat' (first | (simp (disch := first | omega | (decide +kernel) | (repeat first | assumption | exact HExt.refl _ | refine HExt.set ?_ (by first | omega | (simp only [new_nx, set_nx]; omega)) _ | refine HExt.new ?_ _)) only [↓RD, RU, accW_t, accW_f, isW, ↓putF_get, ↓putF_none, ↓evF_t, ↓evF_c, ↓evF_f, new_nx, set_nx, new_get, set_get, getD_zero, getD_succ, u_not, pop, lop, aop, wop, resL, resV, tupleV, akV, isVal, isCell, Value.cells, ρ0, ρ1, ρ2, ρ3, ρ4, ↓reduceIte, Nat.reduceEqDiff, Nat.reduceAdd, Int.reduceOfNat, Int.reduceNegSucc, reduceCtorEq, ρ5, ρ6, ρ7, ρ8, srcR_c, src_n, src_v, src_s, bnd, lenV, capV, ρ9, ρ10, ρ11, ρ12, ρ13, ρ14, ρ15, ρ16, ρ17, ρ18, ρ19, ρ20, ρ21, ρ22, ρ23, ρ24, Kd.isRo, ρ25, ρ26, bldV, Nat.reduceLeDiff, Int.reduceMul, Int.reduceAdd, Int.reduceSub, Int.reduceToNat, maxLen_eq, zeros_one, appS_some, appV_n, appV_v, appH_t, appH_f, Kd.isEx, ρ27, partV, CH.set_set, lkV, lkR, isKey, mupV, nxtV, ρ28, ρ29]) | (with_reducible first | refine condK_dec (fun _ => ?_) fun _ => ?_ | refine grd_dec (fun _ => ?_) fun _ => ?_ | refine egrd_dec (fun _ => ?_) fun _ => ?_))
    all_goals exact ⟨f, S, st, h, hM, m, fun e => absurd rfl e, fun y hy => hy, Nat.le_refl _, rfl, fun _ _ _ => rfl⟩
  obtain ⟨hl, hrc⟩ := ha h0
  have hb := obj_lt2 hF hl
  have hlt := head_lt hF hl
  have hfa := m.hd a hl
  have hga := fnW_get (n := n) (f := f) (i := a) (by omega)
  by_cases hS : a ∈ S
  · rw [if_pos hS] at hfa
    have hand := and63_hi (x := f a) (by unfold mkB at hfa; omega) (by unfold mkB at hfa; omega)
    refine wpF_rG (by rfl) (by kernel_rfl) ?_; (conv in (rF _ _).body => reduce); (conv in (rF _ _).res => reduce)
    repeat' (first | (simp (disch := first | omega | (decide +kernel) | (repeat first | assumption | exact HExt.refl _ | refine HExt.set ?_ (by first | omega | (simp only [new_nx, set_nx]; omega)) _ | refine HExt.new ?_ _)) only [↓RD, RU, accW_t, accW_f, isW, ↓putF_get, ↓putF_none, ↓evF_t, ↓evF_c, ↓evF_f, new_nx, set_nx, new_get, set_get, getD_zero, getD_succ, u_not, pop, lop, aop, wop, resL, resV, tupleV, akV, isVal, isCell, Value.cells, ρ0, ρ1, ρ2, ρ3, ρ4, ↓reduceIte, Nat.reduceEqDiff, Nat.reduceAdd, Int.reduceOfNat, Int.reduceNegSucc, reduceCtorEq, ρ5, ρ6, ρ7, ρ8, srcR_c, src_n, src_v, src_s, bnd, lenV, capV, ρ9, ρ10, ρ11, ρ12, ρ13, ρ14, ρ15, ρ16, ρ17, ρ18, ρ19, ρ20, ρ21, ρ22, ρ23, ρ24, Kd.isRo, ρ25, ρ26, bldV, Nat.reduceLeDiff, Int.reduceMul, Int.reduceAdd, Int.reduceSub, Int.reduceToNat, maxLen_eq, zeros_one, appS_some, appV_n, appV_v, appH_t, appH_f, Kd.isEx, ρ27, partV, CH.set_set, lkV, lkR, isKey, mupV, nxtV, ρ28, ρ29, hw, hr, hga, hand]) | (with_reducible first | refine condK_dec (fun _ => ?_) fun _ => ?_ | refine grd_dec (fun _ => ?_) fun _ => ?_ | refine egrd_dec (fun _ => ?_) fun _ => ?_))
    all_goals exact ⟨f, S, st, h, hM, m, fun _ => hS, fun y hy => hy, Nat.le_refl _, rfl, fun _ _ _ => rfl⟩
  · rw [if_neg hS, Int.add_zero] at hfa
    have hand := and63_lo (x := f a) (by omega) (by omega)
    have hor := or63 (x := f a) (by omega) (by omega)
    have hs1 := fnW_set (n := n) (f := f) (i := a) (x := f a + mkB) (by omega)
    have hs2 := fnW_set (n := n) (f := upF f a (f a + mkB)) (i := a + 1) (x := (h : Int)) (by omega)
    have hs3 := fnW_set (n := n) (f := upF (upF f a (f a + mkB)) (a + 1) (h : Int)) (i := a + 1) (x := (a : Int)) (by omega)
    have hp := m.push hF hl hS hrc
    have hcnt := hp.cnt
    have hh2 : (h : Int) < 9223372036854775808 := by
      have hk := m.link
      match st, hk, m.sub with
      | [], k, _ => have : h = 0 := k; omega
      | s :: r, k, hsub =>
        have e : h = s := by cases r <;> exact k.1
        have := obj_lt2 hF (m.inL _ (hsub s (List.mem_cons_self ..)))
        omega
    rw [← hfa] at hp
    refine wpF_rG (by rfl) (by kernel_rfl) ?_; (conv in (rF _ _).body => reduce); (conv in (rF _ _).res => reduce)
    by_cases hh0 : h = 0
    · subst hh0
      repeat' (first | (simp (disch := first | omega | (decide +kernel) | (repeat first | assumption | exact HExt.refl _ | refine HExt.set ?_ (by first | omega | (simp only [new_nx, set_nx]; omega)) _ | refine HExt.new ?_ _)) only [↓r_seq, ↓r_block, ↓seqK_n, ↓seqK_r, ↓seqK_e, ↓blockK_n, ↓blockK_r, ↓blockK_e, ↓loopI_n, ↓loopI_r, ↓loopI_e, ↓funK_n, ↓funK_r, ↓r_reg, ↓r_drw, ↓r_cond, ↓condK_t, ↓condK_f, ↓i_cons, ↓eitemK, ↓e_nil, ↓e_cons, ↓e_grd, ↓egrd_tt, ↓egrd_ff, ↓egrd_tf, ↓egrd_ft, ↓egrd_s, ↓drwK, ↓r_drw2, ↓chk_nil, ↓chk_n, ↓chk_g, agL, agV_tt, agV_ff, agV_tf, agV_ft, agV_s, agE, accW_t, accW_f, isW, ↓i_grd, ↓grd_tt, ↓grd_ff, ↓grd_tf, ↓grd_ft, ↓grd_s, ↓itemK, ↓o_p, ↓o_l, ↓o_a, ↓o_w, ↓o_call, ↓o_callv, ↓callvK_f, ↓callvK_y, ↓r_range, ↓rangeV_f, ↓putF_get, ↓putF_none, ↓evF_t, ↓evF_c, ↓evF_f, new_nx, set_nx, new_get, set_get, optV_some, optW_some, optA_some, finK_some, ↓wpI_nil, ↓wpR_skip, ↓wpR_exit, ↓wpR_ret, getD_zero, getD_succ, b_add, b_sub, b_mul, b_quo, b_rem, b_eql, b_neq, b_lss, b_leq, b_gtr, b_geq, u_not, w_i64, w_u64, w_u8, t_div, t_mod, pop, lop, aop, wop, resL, resV, tupleV, akV, isVal, isCell, Value.cells, List.map_cons, List.map_nil, Bool.not_true, Bool.not_false, Option.map_some, ↓reduceIte, Nat.reduceEqDiff, Nat.reduceAdd, Int.reduceOfNat, Int.reduceNegSucc, decide_true, decide_false, reduceCtorEq, List.getElem?_cons_zero, List.getElem?_cons_succ, List.length_cons, List.length_nil, setc_0, setc_s, srcR_c, src_n, src_v, src_r, src_s, bnd, lenV, capV, Option.isSome_none, Option.isNone_none, Option.isSome_some, Option.isNone_some, Bool.or_false, Bool.or_true, Bool.true_or, Bool.false_or, List.take_succ_cons, List.take_zero, List.drop_succ_cons, List.drop_zero, List.cons_append, List.nil_append, List.append_nil, List.take_nil, List.drop_nil, List.all_cons, List.all_nil, Bool.and_true, Bool.true_and, List.size_toArray, List.getElem?_toArray, List.toList_toArray, bldV, Nat.reduceLeDiff, Nat.le_refl, u_neg, b_or0, Int.reduceMul, Int.reduceAdd, Int.reduceSub, Int.zero_mul, Int.zero_add, Int.add_zero, b_and3, b_and8, b_and24, b_shr2, b_shrs2, b_shr8, b_shr32, b_shr56, b_shl2, b_shl8, b_shl32, toNat_add1, toNat_add2, toNat_addn, toNat_add2n, Int.reduceToNat, maxLen_eq, zeros_one, zeros_two, zeros_three, take_mapl, List.length_map, List.map_append, List.length_append, beq_self_eq_true, beq_true, beq_false, Bool.false_xor, Bool.true_xor, Bool.xor_false, Bool.xor_true, dec_t, dec_f, ↓w_app, appS_some, appV_n, appV_v, appV_r, appR_c, appH_t, appH_f, Kd.isEx, Bool.false_and, partV, if_pos, if_neg, Nat.mul_one, Nat.one_mul, Nat.zero_add, Nat.add_zero, Int.toNat_natCast, true_and, and_true, hw, hh, hr, hro, hga, hand, hor, fnW_len, ↓hs1, ↓hs2, ↓hs3]) | (with_reducible first | refine condK_dec (fun _ => ?_) fun _ => ?_ | refine grd_dec (fun _ => ?_) fun _ => ?_ | refine egrd_dec (fun _ => ?_) fun _ => ?_))
      rw [if_pos rfl] at hp
      refine ⟨_, _, _, a, ⟨?_, hro, ?_, ?_, n1, n2, n3⟩, hp, fun _ => List.mem_cons_self .., fun y hy => List.mem_cons_of_mem _ hy, ?_, rfl, fun y h1 h2 => ?_⟩
      · rw [set_get, if_neg n2, set_get, if_pos rfl]
        congr 1
        apply fnW_ext
        intro i hi
        unfold upF
        split <;> rfl
      · simp only [set_get]; rw [if_neg n3, if_neg n1.symm, if_neg n1.symm, if_neg n1.symm]; exact hw
      · rw [set_get, if_pos rfl]
      · simp only [List.length_cons] at hcnt ⊢; omega
      · simp only [set_get]; rw [if_neg h2, if_neg h1, if_neg h1, if_neg h1]
    · repeat' (first | (simp (disch := first | omega | (decide +kernel) | (repeat first | assumption | exact HExt.refl _ | refine HExt.set ?_ (by first | omega | (simp only [new_nx, set_nx]; omega)) _ | refine HExt.new ?_ _)) only [↓r_seq, ↓r_block, ↓seqK_n, ↓seqK_r, ↓seqK_e, ↓blockK_n, ↓blockK_r, ↓blockK_e, ↓loopI_n, ↓loopI_r, ↓loopI_e, ↓funK_n, ↓funK_r, ↓r_reg, ↓r_drw, ↓r_cond, ↓condK_t, ↓condK_f, ↓i_cons, ↓eitemK, ↓e_nil, ↓e_cons, ↓e_grd, ↓egrd_tt, ↓egrd_ff, ↓egrd_tf, ↓egrd_ft, ↓egrd_s, ↓drwK, ↓r_drw2, ↓chk_nil, ↓chk_n, ↓chk_g, agL, agV_tt, agV_ff, agV_tf, agV_ft, agV_s, agE, accW_t, accW_f, isW, ↓i_grd, ↓grd_tt, ↓grd_ff, ↓grd_tf, ↓grd_ft, ↓grd_s, ↓itemK, ↓o_p, ↓o_l, ↓o_a, ↓o_w, ↓o_call, ↓o_callv, ↓callvK_f, ↓callvK_y, ↓r_range, ↓rangeV_f, ↓putF_get, ↓putF_none, ↓evF_t, ↓evF_c, ↓evF_f, new_nx, set_nx, new_get, set_get, optV_some, optW_some, optA_some, finK_some, ↓wpI_nil, ↓wpR_skip, ↓wpR_exit, ↓wpR_ret, getD_zero, getD_succ, b_add, b_sub, b_mul, b_quo, b_rem, b_eql, b_neq, b_lss, b_leq, b_gtr, b_geq, u_not, w_i64, w_u64, w_u8, t_div, t_mod, pop, lop, aop, wop, resL, resV, tupleV, akV, isVal, isCell, Value.cells, List.map_cons, List.map_nil, Bool.not_true, Bool.not_false, Option.map_some, ↓reduceIte, Nat.reduceEqDiff, Nat.reduceAdd, Int.reduceOfNat, Int.reduceNegSucc, decide_true, decide_false, reduceCtorEq, List.getElem?_cons_zero, List.getElem?_cons_succ, List.length_cons, List.length_nil, setc_0, setc_s, srcR_c, src_n, src_v, src_r, src_s, bnd, lenV, capV, Option.isSome_none, Option.isNone_none, Option.isSome_some, Option.isNone_some, Bool.or_false, Bool.or_true, Bool.true_or, Bool.false_or, List.take_succ_cons, List.take_zero, List.drop_succ_cons, List.drop_zero, List.cons_append, List.nil_append, List.append_nil, List.take_nil, List.drop_nil, List.all_cons, List.all_nil, Bool.and_true, Bool.true_and, List.size_toArray, List.getElem?_toArray, List.toList_toArray, bldV, Nat.reduceLeDiff, Nat.le_refl, u_neg, b_or0, Int.reduceMul, Int.reduceAdd, Int.reduceSub, Int.zero_mul, Int.zero_add, Int.add_zero, b_and3, b_and8, b_and24, b_shr2, b_shrs2, b_shr8, b_shr32, b_shr56, b_shl2, b_shl8, b_shl32, toNat_add1, toNat_add2, toNat_addn, toNat_add2n, Int.reduceToNat, maxLen_eq, zeros_one, zeros_two, zeros_three, take_mapl, List.length_map, List.map_append, List.length_append, beq_self_eq_true, beq_true, beq_false, Bool.false_xor, Bool.true_xor, Bool.xor_false, Bool.xor_true, dec_t, dec_f, ↓w_app, appS_some, appV_n, appV_v, appV_r, appR_c, appH_t, appH_f, Kd.isEx, Bool.false_and, partV, if_pos, if_neg, Nat.mul_one, Nat.one_mul, Nat.zero_add, Nat.add_zero, Int.toNat_natCast, true_and, and_true, hw, hh, hr, hro, hga, hand, hor, fnW_len, ↓hs1, ↓hs2]) | (with_reducible first | refine condK_dec (fun _ => ?_) fun _ => ?_ | refine grd_dec (fun _ => ?_) fun _ => ?_ | refine egrd_dec (fun _ => ?_) fun _ => ?_))
      rw [if_neg hh0] at hp
      refine ⟨_, _, _, a, ⟨?_, hro, ?_, ?_, n1, n2, n3⟩, hp, fun _ => List.mem_cons_self .., fun y hy => List.mem_cons_of_mem _ hy, ?_, rfl, fun y h1 h2 => ?_⟩
      · rw [set_get, if_neg n2, set_get, if_pos rfl]
      · simp only [set_get]; rw [if_neg n3, if_neg n1.symm, if_neg n1.symm]; exact hw
      · rw [set_get, if_pos rfl]
      · simp only [List.length_cons] at hcnt ⊢; omega
      · simp only [set_get]; rw [if_neg h2, if_neg h1, if_neg h1]
/-- The fields of an object, one by one. -/
theorem fields_it {K0 : CH} {l pw pa b a n c t : Nat} {kd : Kd} {f : Nat → Int} (Inv : Nat → CH → Prop) (hI : ∀ k K, Inv k K → K.ob pa = .cells [.int .i64 a] 3 .ex) (h0 : Inv 0 K0) (hw : K0.ob pw = .cells [.slice (some ⟨b, 0, none⟩) n c] 22 .ex) (hr : K0.ob b = .cells (fnW n f) 42 kd) (ha : a < n) (hn : n ≤ 1048576)
    (hf : 0 ≤ f a ∧ f a < 18446744073709551616) (ht : hdT (f a) = (t : Int)) (step : ∀ k K, k < t → Inv k K → WpY (tblG Try.prog LG GG) l [.int .i64 ((a : Int) + 2 + (k : Int))] K fun u K' => u = .bool true ∧ Inv (k + 1) K') :
    WpF (tblG Try.prog LG GG) 28 [.func (.yield l) #[] #[], .pointer (some ⟨pw, 0, none⟩), .pointer (some ⟨pa, 0, none⟩)] K0 fun _ K => Inv t K := by
  have hpa := hI 0 K0 h0
  have hga := fnW_get (n := n) (f := f) (i := a) ha
  have ht' : f a / 256 % 16777216 = (t : Int) := ht
  refine wpF_rG (by rfl) (by kernel_rfl) ?_; (conv in (rF _ _).body => reduce); (conv in (rF _ _).res => reduce)
  repeat' (first | (simp (disch := first | omega | (decide +kernel) | (repeat first | assumption | exact HExt.refl _ | refine HExt.set ?_ (by first | omega | (simp only [new_nx, set_nx]; omega)) _ | refine HExt.new ?_ _)) only [↓RD, RU, accW_t, accW_f, isW, ↓putF_get, ↓putF_none, ↓evF_t, ↓evF_c, ↓evF_f, new_nx, set_nx, new_get, set_get, getD_zero, getD_succ, u_not, pop, lop, aop, wop, resL, resV, tupleV, akV, isVal, isCell, Value.cells, ρ0, ρ1, ρ2, ρ3, ρ4, ↓reduceIte, Nat.reduceEqDiff, Nat.reduceAdd, Int.reduceOfNat, Int.reduceNegSucc, reduceCtorEq, ρ5, ρ6, ρ7, ρ8, srcR_c, src_n, src_v, src_s, bnd, lenV, capV, ρ9, ρ10, ρ11, ρ12, ρ13, ρ14, ρ15, ρ16, ρ17, ρ18, ρ19, ρ20, ρ21, ρ22, ρ23, ρ24, Kd.isRo, ρ25, ρ26, bldV, Nat.reduceLeDiff, Int.reduceMul, Int.reduceAdd, Int.reduceSub, Int.reduceToNat, maxLen_eq, zeros_one, appS_some, appV_n, appV_v, appH_t, appH_f, Kd.isEx, ρ27, partV, CH.set_set, lkV, lkR, isKey, mupV, nxtV, ρ28, ρ29, hw, hpa, hr, hga, ht']) | (with_reducible first | refine condK_dec (fun _ => ?_) fun _ => ?_ | refine grd_dec (fun _ => ?_) fun _ => ?_ | refine egrd_dec (fun _ => ?_) fun _ => ?_))
  refine loop_w (fun m fr K => ∃ k : Nat, m = t - k ∧ k ≤ t ∧ fr 12 = .int .i64 (k : Int) ∧ Inv k K) (n := t) ⟨0, rfl, Nat.zero_le _, by (repeat' (first | (simp (disch := first | omega | (decide +kernel) | (repeat first | assumption | exact HExt.refl _ | refine HExt.set ?_ (by first | omega | (simp only [new_nx, set_nx]; omega)) _ | refine HExt.new ?_ _)) only [↓RD, RU, accW_t, accW_f, isW, ↓putF_get, ↓putF_none, ↓evF_t, ↓evF_c, ↓evF_f, new_nx, set_nx, new_get, set_get, getD_zero, getD_succ, u_not, pop, lop, aop, wop, resL, resV, tupleV, akV, isVal, isCell, Value.cells, ρ0, ρ1, ρ2, ρ3, ρ4, ↓reduceIte, Nat.reduceEqDiff, Nat.reduceAdd, Int.reduceOfNat, Int.reduceNegSucc, reduceCtorEq, ρ5, ρ6, ρ7, ρ8, srcR_c, src_n, src_v, src_s, bnd, lenV, capV, ρ9, ρ10, ρ11, ρ12, ρ13, ρ14, ρ15, ρ16, ρ17, ρ18, ρ19, ρ20, ρ21, ρ22, ρ23, ρ24, Kd.isRo, ρ25, ρ26, bldV, Nat.reduceLeDiff, Int.reduceMul, Int.reduceAdd, Int.reduceSub, Int.reduceToNat, maxLen_eq, zeros_one, appS_some, appV_n, appV_v, appH_t, appH_f, Kd.isEx, ρ27, partV, CH.set_set, lkV, lkR, isKey, mupV, nxtV, ρ28, ρ29]) | (with_reducible first | refine condK_dec (fun _ => ?_) fun _ => ?_ | refine grd_dec (fun _ => ?_) fun _ => ?_ | refine egrd_dec (fun _ => ?_) fun _ => ?_))); all_goals rfl, h0⟩ ?_
  rintro m fr K ⟨k, rfl, hk, f12, hik⟩ hag
  have hp := hI k K hik
  by_cases hkt : k < t
  case neg =>
    have : k = t := by omega
    subst this
    repeat' (first | (simp (disch := first | omega | (decide +kernel) | (repeat first | assumption | exact HExt.refl _ | refine HExt.set ?_ (by first | omega | (simp only [new_nx, set_nx]; omega)) _ | refine HExt.new ?_ _)) only [↓RD, RU, accW_t, accW_f, isW, ↓putF_get, ↓putF_none, ↓evF_t, ↓evF_c, ↓evF_f, new_nx, set_nx, new_get, set_get, getD_zero, getD_succ, u_not, pop, lop, aop, wop, resL, resV, tupleV, akV, isVal, isCell, Value.cells, ρ0, ρ1, ρ2, ρ3, ρ4, ↓reduceIte, Nat.reduceEqDiff, Nat.reduceAdd, Int.reduceOfNat, Int.reduceNegSucc, reduceCtorEq, ρ5, ρ6, ρ7, ρ8, srcR_c, src_n, src_v, src_s, bnd, lenV, capV, ρ9, ρ10, ρ11, ρ12, ρ13, ρ14, ρ15, ρ16, ρ17, ρ18, ρ19, ρ20, ρ21, ρ22, ρ23, ρ24, Kd.isRo, ρ25, ρ26, bldV, Nat.reduceLeDiff, Int.reduceMul, Int.reduceAdd, Int.reduceSub, Int.reduceToNat, maxLen_eq, zeros_one, appS_some, appV_n, appV_v, appH_t, appH_f, Kd.isEx, ρ27, partV, CH.set_set, lkV, lkR, isKey, mupV, nxtV, ρ28, ρ29, f12, hag]) | (with_reducible first | refine condK_dec (fun _ => ?_) fun _ => ?_ | refine grd_dec (fun _ => ?_) fun _ => ?_ | refine egrd_dec (fun _ => ?_) fun _ => ?_))
    exact hik
  have hs := step k K hkt hik
  repeat' (first | (simp (disch := first | omega | (decide +kernel) | (repeat first | assumption | exact HExt.refl _ | refine HExt.set ?_ (by first | omega | (simp only [new_nx, set_nx]; omega)) _ | refine HExt.new ?_ _)) only [↓RD, RU, accW_t, accW_f, isW, ↓putF_get, ↓putF_none, ↓evF_t, ↓evF_c, ↓evF_f, new_nx, set_nx, new_get, set_get, getD_zero, getD_succ, u_not, pop, lop, aop, wop, resL, resV, tupleV, akV, isVal, isCell, Value.cells, ρ0, ρ1, ρ2, ρ3, ρ4, ↓reduceIte, Nat.reduceEqDiff, Nat.reduceAdd, Int.reduceOfNat, Int.reduceNegSucc, reduceCtorEq, ρ5, ρ6, ρ7, ρ8, srcR_c, src_n, src_v, src_s, bnd, lenV, capV, ρ9, ρ10, ρ11, ρ12, ρ13, ρ14, ρ15, ρ16, ρ17, ρ18, ρ19, ρ20, ρ21, ρ22, ρ23, ρ24, Kd.isRo, ρ25, ρ26, bldV, Nat.reduceLeDiff, Int.reduceMul, Int.reduceAdd, Int.reduceSub, Int.reduceToNat, maxLen_eq, zeros_one, appS_some, appV_n, appV_v, appH_t, appH_f, Kd.isEx, ρ27, partV, CH.set_set, lkV, lkR, isKey, mupV, nxtV, ρ28, ρ29, f12, hag, hp]) | (with_reducible first | refine condK_dec (fun _ => ?_) fun _ => ?_ | refine grd_dec (fun _ => ?_) fun _ => ?_ | refine egrd_dec (fun _ => ?_) fun _ => ?_))
  refine hs.mono fun u K' ⟨hu, hk'⟩ => ?_
  subst hu
  repeat' (first | (simp (disch := first | omega | (decide +kernel) | (repeat first | assumption | exact HExt.refl _ | refine HExt.set ?_ (by first | omega | (simp only [new_nx, set_nx]; omega)) _ | refine HExt.new ?_ _)) only [↓RD, RU, accW_t, accW_f, isW, ↓putF_get, ↓putF_none, ↓evF_t, ↓evF_c, ↓evF_f, new_nx, set_nx, new_get, set_get, getD_zero, getD_succ, u_not, pop, lop, aop, wop, resL, resV, tupleV, akV, isVal, isCell, Value.cells, ρ0, ρ1, ρ2, ρ3, ρ4, ↓reduceIte, Nat.reduceEqDiff, Nat.reduceAdd, Int.reduceOfNat, Int.reduceNegSucc, reduceCtorEq, ρ5, ρ6, ρ7, ρ8, srcR_c, src_n, src_v, src_s, bnd, lenV, capV, ρ9, ρ10, ρ11, ρ12, ρ13, ρ14, ρ15, ρ16, ρ17, ρ18, ρ19, ρ20, ρ21, ρ22, ρ23, ρ24, Kd.isRo, ρ25, ρ26, bldV, Nat.reduceLeDiff, Int.reduceMul, Int.reduceAdd, Int.reduceSub, Int.reduceToNat, maxLen_eq, zeros_one, appS_some, appV_n, appV_v, appH_t, appH_f, Kd.isEx, ρ27, partV, CH.set_set, lkV, lkR, isKey, mupV, nxtV, ρ28, ρ29, f12, hag]) | (with_reducible first | refine condK_dec (fun _ => ?_) fun _ => ?_ | refine grd_dec (fun _ => ?_) fun _ => ?_ | refine egrd_dec (fun _ => ?_) fun _ => ?_))
  exact ⟨_, by omega, k + 1, rfl, by omega, rfl, hk'⟩
/-- All objects, one by one. -/
theorem objects_it {K0 : CH} {l pw pt b n c tn : Nat} {ls : List Nat} {sz : Nat → Nat} (Inv : Nat → CH → Prop) (hch : Ch sz tn 1 ls) (htn : tn ≤ n) (hn : n ≤ 1048576)
    (hI : ∀ k K, Inv k K → K.ob pt = .cells [.int .i64 tn] 3 .ex ∧ K.ob pw = .cells [.slice (some ⟨b, 0, none⟩) n c] 22 .ex ∧ ∃ kd f, K.ob b = .cells (fnW n f) 42 kd ∧ ∀ a ∈ ls, 0 ≤ f a ∧ f a < 18446744073709551616 ∧ hdS (f a) = (sz a : Int))
    (h0 : Inv 0 K0) (step : ∀ (k a : Nat) (K : CH), ls[k]? = some a → Inv k K → WpY (tblG Try.prog LG GG) l [.int .i64 (a : Int)] K fun u K' => u = .bool true ∧ Inv (k + 1) K') :
    WpF (tblG Try.prog LG GG) 27 [.func (.yield l) #[] #[], .pointer (some ⟨pt, 0, none⟩), .pointer (some ⟨pw, 0, none⟩)] K0 fun _ K => Inv ls.length K := by
  refine wpF_rG (by rfl) (by kernel_rfl) ?_; (conv in (rF _ _).body => reduce); (conv in (rF _ _).res => reduce)
  repeat' (first | (simp (disch := first | omega | (decide +kernel) | (repeat first | assumption | exact HExt.refl _ | refine HExt.set ?_ (by first | omega | (simp only [new_nx, set_nx]; omega)) _ | refine HExt.new ?_ _)) only [↓RD, RU, accW_t, accW_f, isW, ↓putF_get, ↓putF_none, ↓evF_t, ↓evF_c, ↓evF_f, new_nx, set_nx, new_get, set_get, getD_zero, getD_succ, u_not, pop, lop, aop, wop, resL, resV, tupleV, akV, isVal, isCell, Value.cells, ρ0, ρ1, ρ2, ρ3, ρ4, ↓reduceIte, Nat.reduceEqDiff, Nat.reduceAdd, Int.reduceOfNat, Int.reduceNegSucc, reduceCtorEq, ρ5, ρ6, ρ7, ρ8, srcR_c, src_n, src_v, src_s, bnd, lenV, capV, ρ9, ρ10, ρ11, ρ12, ρ13, ρ14, ρ15, ρ16, ρ17, ρ18, ρ19, ρ20, ρ21, ρ22, ρ23, ρ24, Kd.isRo, ρ25, ρ26, bldV, Nat.reduceLeDiff, Int.reduceMul, Int.reduceAdd, Int.reduceSub, Int.reduceToNat, maxLen_eq, zeros_one, appS_some, appV_n, appV_v, appH_t, appH_f, Kd.isEx, ρ27, partV, CH.set_set, lkV, lkR, isKey, mupV, nxtV, ρ28, ρ29]) | (with_reducible first | refine condK_dec (fun _ => ?_) fun _ => ?_ | refine grd_dec (fun _ => ?_) fun _ => ?_ | refine egrd_dec (fun _ => ?_) fun _ => ?_))
  refine loop_w (fun m fr K => ∃ (k a : Nat), m = ls.length - k ∧ k ≤ ls.length ∧ fr 4 = .int .i64 (a : Int) ∧ Ch sz tn a (ls.drop k) ∧ Inv k K) (n := ls.length) ⟨0, 1, rfl, Nat.zero_le _, by (repeat' (first | (simp (disch := first | omega | (decide +kernel) | (repeat first | assumption | exact HExt.refl _ | refine HExt.set ?_ (by first | omega | (simp only [new_nx, set_nx]; omega)) _ | refine HExt.new ?_ _)) only [↓RD, RU, accW_t, accW_f, isW, ↓putF_get, ↓putF_none, ↓evF_t, ↓evF_c, ↓evF_f, new_nx, set_nx, new_get, set_get, getD_zero, getD_succ, u_not, pop, lop, aop, wop, resL, resV, tupleV, akV, isVal, isCell, Value.cells, ρ0, ρ1, ρ2, ρ3, ρ4, ↓reduceIte, Nat.reduceEqDiff, Nat.reduceAdd, Int.reduceOfNat, Int.reduceNegSucc, reduceCtorEq, ρ5, ρ6, ρ7, ρ8, srcR_c, src_n, src_v, src_s, bnd, lenV, capV, ρ9, ρ10, ρ11, ρ12, ρ13, ρ14, ρ15, ρ16, ρ17, ρ18, ρ19, ρ20, ρ21, ρ22, ρ23, ρ24, Kd.isRo, ρ25, ρ26, bldV, Nat.reduceLeDiff, Int.reduceMul, Int.reduceAdd, Int.reduceSub, Int.reduceToNat, maxLen_eq, zeros_one, appS_some, appV_n, appV_v, appH_t, appH_f, Kd.isEx, ρ27, partV, CH.set_set, lkV, lkR, isKey, mupV, nxtV, ρ28, ρ29]) | (with_reducible first | refine condK_dec (fun _ => ?_) fun _ => ?_ | refine grd_dec (fun _ => ?_) fun _ => ?_ | refine egrd_dec (fun _ => ?_) fun _ => ?_))); all_goals rfl, hch, h0⟩ ?_
  rintro m fr K ⟨k, a, rfl, hk, f4, hc, hik⟩ hag
  obtain ⟨hpt, hpw, kd, f, hr, hz⟩ := hI k K hik
  have hle := hc.le
  by_cases hkl : k < ls.length
  case neg =>
    have : k = ls.length := by omega
    subst this
    have ha : a = tn := by rw [List.drop_length] at hc; cases hc; rfl
    subst ha
    repeat' (first | (simp (disch := first | omega | (decide +kernel) | (repeat first | assumption | exact HExt.refl _ | refine HExt.set ?_ (by first | omega | (simp only [new_nx, set_nx]; omega)) _ | refine HExt.new ?_ _)) only [↓RD, RU, accW_t, accW_f, isW, ↓putF_get, ↓putF_none, ↓evF_t, ↓evF_c, ↓evF_f, new_nx, set_nx, new_get, set_get, getD_zero, getD_succ, u_not, pop, lop, aop, wop, resL, resV, tupleV, akV, isVal, isCell, Value.cells, ρ0, ρ1, ρ2, ρ3, ρ4, ↓reduceIte, Nat.reduceEqDiff, Nat.reduceAdd, Int.reduceOfNat, Int.reduceNegSucc, reduceCtorEq, ρ5, ρ6, ρ7, ρ8, srcR_c, src_n, src_v, src_s, bnd, lenV, capV, ρ9, ρ10, ρ11, ρ12, ρ13, ρ14, ρ15, ρ16, ρ17, ρ18, ρ19, ρ20, ρ21, ρ22, ρ23, ρ24, Kd.isRo, ρ25, ρ26, bldV, Nat.reduceLeDiff, Int.reduceMul, Int.reduceAdd, Int.reduceSub, Int.reduceToNat, maxLen_eq, zeros_one, appS_some, appV_n, appV_v, appH_t, appH_f, Kd.isEx, ρ27, partV, CH.set_set, lkV, lkR, isKey, mupV, nxtV, ρ28, ρ29, f4, hag, hpt]) | (with_reducible first | refine condK_dec (fun _ => ?_) fun _ => ?_ | refine grd_dec (fun _ => ?_) fun _ => ?_ | refine egrd_dec (fun _ => ?_) fun _ => ?_))
    exact hik
  obtain ⟨y, hy⟩ : ∃ y, ls[k]? = some y := ⟨ls[k], List.getElem?_eq_getElem hkl⟩
  have hd : ls.drop k = ls[k] :: ls.drop (k + 1) := List.drop_eq_getElem_cons hkl
  have hyk : ls[k] = y := by rw [List.getElem?_eq_getElem hkl] at hy; exact Option.some.inj hy
  rw [hd, hyk] at hc
  cases hc with
  | cons h2 hr2 =>
    have hle2 := hr2.le
    have hm : a ∈ ls := List.mem_of_getElem? hy
    obtain ⟨z1, z2, z3⟩ := hz a hm
    have hga := fnW_get (n := n) (f := f) (i := a) (by omega)
    have hs := step k a K hy hik
    repeat' (first | (simp (disch := first | omega | (decide +kernel) | (repeat first | assumption | exact HExt.refl _ | refine HExt.set ?_ (by first | omega | (simp only [new_nx, set_nx]; omega)) _ | refine HExt.new ?_ _)) only [↓RD, RU, accW_t, accW_f, isW, ↓putF_get, ↓putF_none, ↓evF_t, ↓evF_c, ↓evF_f, new_nx, set_nx, new_get, set_get, getD_zero, getD_succ, u_not, pop, lop, aop, wop, resL, resV, tupleV, akV, isVal, isCell, Value.cells, ρ0, ρ1, ρ2, ρ3, ρ4, ↓reduceIte, Nat.reduceEqDiff, Nat.reduceAdd, Int.reduceOfNat, Int.reduceNegSucc, reduceCtorEq, ρ5, ρ6, ρ7, ρ8, srcR_c, src_n, src_v, src_s, bnd, lenV, capV, ρ9, ρ10, ρ11, ρ12, ρ13, ρ14, ρ15, ρ16, ρ17, ρ18, ρ19, ρ20, ρ21, ρ22, ρ23, ρ24, Kd.isRo, ρ25, ρ26, bldV, Nat.reduceLeDiff, Int.reduceMul, Int.reduceAdd, Int.reduceSub, Int.reduceToNat, maxLen_eq, zeros_one, appS_some, appV_n, appV_v, appH_t, appH_f, Kd.isEx, ρ27, partV, CH.set_set, lkV, lkR, isKey, mupV, nxtV, ρ28, ρ29, f4, hag, hpt, hpw, hr, hga, size_iff, z3]) | (with_reducible first | refine condK_dec (fun _ => ?_) fun _ => ?_ | refine grd_dec (fun _ => ?_) fun _ => ?_ | refine egrd_dec (fun _ => ?_) fun _ => ?_))
    refine hs.mono fun u K' ⟨hu, hk'⟩ => ?_
    subst hu
    repeat' (first | (simp (disch := first | omega | (decide +kernel) | (repeat first | assumption | exact HExt.refl _ | refine HExt.set ?_ (by first | omega | (simp only [new_nx, set_nx]; omega)) _ | refine HExt.new ?_ _)) only [↓RD, RU, accW_t, accW_f, isW, ↓putF_get, ↓putF_none, ↓evF_t, ↓evF_c, ↓evF_f, new_nx, set_nx, new_get, set_get, getD_zero, getD_succ, u_not, pop, lop, aop, wop, resL, resV, tupleV, akV, isVal, isCell, Value.cells, ρ0, ρ1, ρ2, ρ3, ρ4, ↓reduceIte, Nat.reduceEqDiff, Nat.reduceAdd, Int.reduceOfNat, Int.reduceNegSucc, reduceCtorEq, ρ5, ρ6, ρ7, ρ8, srcR_c, src_n, src_v, src_s, bnd, lenV, capV, ρ9, ρ10, ρ11, ρ12, ρ13, ρ14, ρ15, ρ16, ρ17, ρ18, ρ19, ρ20, ρ21, ρ22, ρ23, ρ24, Kd.isRo, ρ25, ρ26, bldV, Nat.reduceLeDiff, Int.reduceMul, Int.reduceAdd, Int.reduceSub, Int.reduceToNat, maxLen_eq, zeros_one, appS_some, appV_n, appV_v, appH_t, appH_f, Kd.isEx, ρ27, partV, CH.set_set, lkV, lkR, isKey, mupV, nxtV, ρ28, ρ29, f4, hag]) | (with_reducible first | refine condK_dec (fun _ => ?_) fun _ => ?_ | refine grd_dec (fun _ => ?_) fun _ => ?_ | refine egrd_dec (fun _ => ?_) fun _ => ?_))
    exact ⟨_, by omega, k + 1, a + sz a, rfl, by omega, by rw [Int.natCast_add], hr2, hk'⟩
end Can
end Go.Proofs.Ytopmheekeooodaa
