/- Slide: Collect of the program. -/
import Derived.Test.YtopmheekeooodaaSlColB
import Derived.Test.YtopmheekeooodaaSlKa
import Derived.Laws.BitsAllLaws
namespace Go.Proofs.Ytopmheekeooodaa
namespace Can
open Go Go.RowKit
set_option linter.unusedSimpArgs false
set_option linter.unusedVariables false
set_option maxRecDepth 4000
theorem andNot63 {y : Int} (h0 : 0 ≤ y) (h1 : y < 9223372036854775808) : svOf (binOp .andNot 0 (.int .u64 (y + mkB)) (.int .u64 9223372036854775808)) = some (.int .u64 y) := by
  obtain ⟨a, rfl⟩ := Int.eq_ofNat_of_zero_le h0
  have e : ((a : Int) + mkB) = ((a + 9223372036854775808 : Nat) : Int) := by unfold mkB; omega
  rw [e]
  have h : svOf (binOp .andNot 0 (.int .u64 ((a + 9223372036854775808 : Nat) : Int)) (.int .u64 ((9223372036854775808 : Nat) : Int))) = some (.int .u64 (bits .andNot .u64 ((a + 9223372036854775808 : Nat) : Int) ((9223372036854775808 : Nat) : Int))) := by
    simp [binOp, Op.intBits, svOf, Pure.pure, bits]
  have h2 := u64_andNot_nat (a + 9223372036854775808) 9223372036854775808 (by omega) (by decide)
  rw [show (9223372036854775808 : Int) = ((9223372036854775808 : Nat) : Int) from rfl, h, h2]
  congr 2
  have : (a + 9223372036854775808) &&& (18446744073709551615 - 9223372036854775808) = a := by
    show (a + 9223372036854775808) &&& (2 ^ 63 - 1) = a
    rw [Nat.and_two_pow_sub_one_eq_mod]; omega
  rw [this]
def cpyV (H : CH) (d s : Value) : Option (Value × CH) := wop H (evF fun i => if i = 0 then d else s) (.cpy 1 (.tmp 0) (.tmp 1))
theorem w_cpyV {H : CH} {ev : Operand → Value} {d s : Operand} : wop H ev (.cpy 1 d s) = cpyV H (ev d) (ev s) := rfl
/-- Words that slide. -/
def slF (g : Nat → Int) (P a s i : Nat) : Int := if P ≤ i ∧ i < P + s then g (a + (i - P)) else g i
theorem cpy_fn {H : CH} {b n P a s c1 c2 : Nat} {kd : Kd} {g : Nat → Int} (hb : H.ob b = .cells (fnW n g) 42 kd) (hro : kd.isRo = false) (h1 : P + s ≤ n) (h2 : a + s ≤ n) (h0 : 0 < s) :
    cpyV H (.slice (some ⟨b, P, none⟩) s c1) (.slice (some ⟨b, a, none⟩) s c2) = some (.int .i64 (s : Nat), H.set b (.cells (fnW n (slF g P a s)) 42 kd)) := by
  have hsrc : srcCells H 1 (.slice (some ⟨b, a, none⟩) s c2) = some (((fnW n g).drop a).take s, s) := by
    rw [src_r, if_neg (by omega), hb, srcR_c, if_pos (by rw [fnW_len]; omega), Nat.mul_one]
  have hall : (((fnW n g).drop a).take s).all isCell = true := by
    rw [List.all_eq_true]
    intro x hx
    exact List.all_eq_true.1 (fnW_cells (n := n) (f := g)) x (List.mem_of_mem_drop (List.mem_of_mem_take hx))
  have hset : setCells (fnW n g) P ((((fnW n g).drop a).take s).take s) = fnW n (slF g P a s) := by
    have hl : ((((fnW n g).drop a).take s).take s).length = s := by simp [fnW_len]; omega
    apply List.ext_getElem?
    intro i
    unfold setCells
    by_cases hi : i < n
    · rw [fnW_get hi]
      unfold slF
      by_cases h3 : i < P
      · rw [if_neg (by omega), List.append_assoc, List.getElem?_append_left (by simp [fnW_len]; omega), List.getElem?_take_of_lt h3, fnW_get hi]
      · by_cases h4 : i < P + s
        · rw [if_pos (by omega), List.getElem?_append_left (by simp [fnW_len]; omega), List.getElem?_append_right (by simp [fnW_len]; omega)]
          have e : i - (List.take P (fnW n g)).length = i - P := by simp [fnW_len]; omega
          rw [e, List.getElem?_take_of_lt (by omega), List.getElem?_take_of_lt (by omega), List.getElem?_drop, fnW_get (by omega)]
        · rw [if_neg (by omega), List.getElem?_append_right (by simp [fnW_len]; omega), List.getElem?_drop, hl]
          have e : P + s + (i - (List.take P (fnW n g) ++ List.take s (List.take s (List.drop a (fnW n g)))).length) = i := by simp [fnW_len]; omega
          rw [e, fnW_get hi]
    · rw [List.getElem?_eq_none (l := fnW n (slF g P a s)) (by rw [fnW_len]; omega), List.getElem?_eq_none (by simp [fnW_len]; omega)]
  unfold cpyV
  simp only [wop, evF, hsrc, Nat.reduceEqDiff, if_true, if_false]
  rw [if_neg (by omega)]
  simp only [hb, Nat.min_self, Nat.mul_one]
  rw [if_pos ⟨hro, by rw [fnW_len]; omega, hall⟩, hset]
/-- What the sliding keeps. -/
structure QS (ws roots : List Int) (tn : Nat) (ls : List Nat) (f : Nat → Int) (k : Nat) : Prop where
  lo : ∀ i, i < Pk ws roots ls k → f i = colF ws roots ls i
  ob : ∀ a ∈ ls, k ≤ ls.idxOf a → ∀ j, j < szN ws a → f (a + j) = GB ws roots ls ls.length 0 a j
  hi : ∀ i, tn ≤ i → f i = 0
theorem QS.start {ws roots : List Int} {tn : Nat} {ls : List Nat} {f : Nat → Int} (h : Sp ws tn ls f (GB ws roots ls ls.length 0)) : QS ws roots tn ls f 0 :=
  ⟨fun i hi => by rw [Pk_zero] at hi; have : i = 0 := by omega
                  rw [this, h.z, colF_zero], fun a ha _ j hj => h.ob a ha j hj, h.hi⟩
theorem QS.no {ws roots : List Int} {tn : Nat} {ls : List Nat} {f : Nat → Int} {k a : Nat} (h : QS ws roots tn ls f k) (ha : ls[k]? = some a) (hr : ¬ Rc ws roots a) : QS ws roots tn ls f (k + 1) :=
  ⟨fun i hi => h.lo i (by rw [Pk_no ha hr] at hi; exact hi), fun b hb hk j hj => h.ob b hb (by omega) j hj, h.hi⟩
theorem idx_after {ws : List Int} {tn : Nat} {ls : List Nat} (hF : Form ws tn ls) {k a b : Nat} (ha : ls[k]? = some a) (hb : b ∈ ls) (h : k + 1 ≤ ls.idxOf b) : a + szN ws a ≤ b := by
  have hp := List.pairwise_iff_getElem.1 hF.ch.apart
  obtain ⟨hk, rfl⟩ := List.getElem?_eq_some_iff.1 ha
  have h1 := List.idxOf_lt_length_of_mem hb
  have h2 := hp k (ls.idxOf b) hk h1 (by omega)
  rw [List.getElem_idxOf h1] at h2
  exact h2
theorem QS.yes {ws roots : List Int} {tn : Nat} {ls : List Nat} {f : Nat → Int} {k a : Nat} (hF : Form ws tn ls) (h : QS ws roots tn ls f k) (ha : ls[k]? = some a) (hr : Rc ws roots a) :
    QS ws roots tn ls (slF (upF (upF f a (wd ws a)) (a + 1) 0) (Pk ws roots ls k) a (szN ws a)) (k + 1) := by
  have ham : a ∈ ls := List.mem_of_getElem? ha
  have hnt := nto_at (ws := ws) (roots := roots) hF.ch.nodup ha
  have hle := nto_le (roots := roots) hF ham
  have hsz := hF.ch.mem a ham
  have hia := idx_at hF.ch.nodup ha
  have hin : ∀ j, j < szN ws a → upF (upF f a (wd ws a)) (a + 1) 0 (a + j) = objW ws roots ls a j := fun j hj => by
    unfold upF
    by_cases h1 : j = 1
    · subst h1
      rw [if_pos rfl]
      unfold objW
      rw [if_neg (by omega), (isObj_sz (hF.ob a ham)).2.2.2.1]
    · by_cases h0 : j = 0
      · subst h0
        rw [if_neg (by omega), if_pos (by omega)]
        unfold objW
        rw [if_neg (by omega)]; rfl
      · rw [if_neg (by omega), if_neg (by omega), h.ob a ham (by omega) j hj, GB_fin ham hr (by omega)]
  refine ⟨fun i hi => ?_, fun b hb hk j hj => ?_, fun i hi => ?_⟩
  · rw [Pk_yes ha hr] at hi
    unfold slF
    by_cases h1 : Pk ws roots ls k ≤ i
    · rw [if_pos ⟨h1, hi⟩, hin _ (by omega)]
      have := colF_at (roots := roots) hF ham hr (j := i - Pk ws roots ls k) (by omega)
      rw [hnt, Nat.add_sub_cancel' h1] at this
      exact this.symm
    · rw [if_neg (fun h => h1 h.1)]
      unfold upF
      rw [if_neg (by omega), if_neg (by omega)]
      exact h.lo i (by omega)
  · have h1 := idx_after hF ha hb hk
    unfold slF
    rw [if_neg (by omega)]
    unfold upF
    rw [if_neg (by omega), if_neg (by omega)]
    exact h.ob b hb (by omega) j hj
  · unfold slF
    rw [if_neg (by omega)]
    unfold upF
    rw [if_neg (by omega), if_neg (by omega)]
    exact h.hi i hi
/-- What Collect answers, and what it leaves. -/
def ColOut (H : CH) (pm b n c : Nat) (kd : Kd) (ws : List Int) (top : Int) (roots : List Int) (v : Value) (K : CH) : Prop :=
  H.nx ≤ K.nx ∧ (∀ x, x < H.nx → x ≠ b → x ≠ pm → K.ob x = H.ob x) ∧ ((rtB ws top roots = false ∧ v = .tuple #[.slice none 0 0, .int .i64 3] ∧ K.ob b = H.ob b ∧ K.ob pm = H.ob pm) ∨
    (rtB ws top roots = true ∧ ∃ ls u, formF ws top = some (intsN ls) ∧ v = .tuple #[u, .int .i64 0] ∧ Grw H 42 1 (ints .u64) K u (roots.map (turnF ws roots ls)) ∧ K.ob b = .cells (fnW n (colF ws roots ls)) 42 kd ∧
      K.ob pm = .cells [.slice (some ⟨b, 0, none⟩) n c, .int .i64 (Pk ws roots ls ls.length : Int)] 24 .ex))
theorem collect_nil {H : CH} {q : Option Addr} {n d : Nat} : WpF (tblG Try.prog LG GG) 10 [.pointer none, .slice q n d] H fun v K => v = .tuple #[.slice none 0 0, .int .i64 3] ∧ K = H := by
  refine wpF_rG (by rfl) (by kernel_rfl) ?_; (conv in (rF _ _).body => reduce); (conv in (rF _ _).res => reduce)
  repeat' (first | (simp (disch := first | omega | (decide +kernel) | (repeat first | assumption | exact HExt.refl _ | refine HExt.set ?_ (by first | omega | (simp only [new_nx, set_nx]; omega)) _ | refine HExt.new ?_ _)) only [↓RD, RU, accW_t, accW_f, isW, ↓putF_get, ↓putF_none, ↓evF_t, ↓evF_c, ↓evF_f, new_nx, set_nx, new_get, set_get, getD_zero, getD_succ, u_not, pop, lop, aop, wop, resL, resV, tupleV, akV, isVal, isCell, Value.cells, ρ0, ρ1, ρ2, ρ3, ρ4, ↓reduceIte, Nat.reduceEqDiff, Nat.reduceAdd, Int.reduceOfNat, Int.reduceNegSucc, reduceCtorEq, ρ5, ρ6, ρ7, ρ8, srcR_c, src_n, src_v, src_s, bnd, lenV, capV, ρ9, ρ10, ρ11, ρ12, ρ13, ρ14, ρ15, ρ16, ρ17, ρ18, ρ19, ρ20, ρ21, ρ22, ρ23, ρ24, Kd.isRo, ρ25, ρ26, bldV, Nat.reduceLeDiff, Int.reduceMul, Int.reduceAdd, Int.reduceSub, Int.reduceToNat, maxLen_eq, zeros_one, appS_some, appV_n, appV_v, appH_t, appH_f, Kd.isEx, ρ27, partV, CH.set_set, lkV, lkR, isKey, mupV, nxtV, ρ28, ρ29]) | (with_reducible first | refine condK_dec (fun _ => ?_) fun _ => ?_ | refine grd_dec (fun _ => ?_) fun _ => ?_ | refine egrd_dec (fun _ => ?_) fun _ => ?_))
theorem collect_wp {H : CH} {pm b n c d : Nat} {q : Option Addr} {kd : Kd} {ws roots : List Int} (top : Int) (hpm : H.ob pm = .cells [.slice (some ⟨b, 0, none⟩) n c, .int .i64 top] 24 .ex) (hob : H.ob b = .cells (ws.map (.int .u64)) 42 kd) (hro : kd.isRo = false) (hn : n = ws.length) (hc : n ≤ c) (hc2 : c ≤ 9223372036854775807)
    (h1 : pm < H.nx) (h2 : b < H.nx) (h3 : pm ≠ b) (hu : ∀ x ∈ ws, (Lit.int .u64 x).wf = true) (ht1 : -9223372036854775808 ≤ top) (ht2 : top ≤ 9223372036854775807) (hrs : SlAt 1 (CInt .u64) H q d roots) (hq : ∀ l o, q = some ⟨l, o, none⟩ → l ≠ b) (hrl : roots.length ≤ 17592186043904) :
    WpF (tblG Try.prog LG GG) 10 [.pointer (some ⟨pm, 0, none⟩), .slice q roots.length d] H fun v K => ColOut H pm b n c kd ws top roots v K := by
  subst hn
  have hW : Words H (some ⟨b, 0, none⟩) c ws := words_own h2 hob hc (by rw [maxLen_eq]; exact hc2) hu
  have hu' := sl_u64 hW.1
  refine wpF_rG (by rfl) (by kernel_rfl) ?_; (conv in (rF _ _).body => reduce); (conv in (rF _ _).res => reduce)
  repeat' (first | (simp (disch := first | omega | (decide +kernel) | (repeat first | assumption | exact HExt.refl _ | refine HExt.set ?_ (by first | omega | (simp only [new_nx, set_nx]; omega)) _ | refine HExt.new ?_ _)) only [↓RD, RU, accW_t, accW_f, isW, ↓putF_get, ↓putF_none, ↓evF_t, ↓evF_c, ↓evF_f, new_nx, set_nx, new_get, set_get, getD_zero, getD_succ, u_not, pop, lop, aop, wop, resL, resV, tupleV, akV, isVal, isCell, Value.cells, ρ0, ρ1, ρ2, ρ3, ρ4, ↓reduceIte, Nat.reduceEqDiff, Nat.reduceAdd, Int.reduceOfNat, Int.reduceNegSucc, reduceCtorEq, ρ5, ρ6, ρ7, ρ8, srcR_c, src_n, src_v, src_s, bnd, lenV, capV, ρ9, ρ10, ρ11, ρ12, ρ13, ρ14, ρ15, ρ16, ρ17, ρ18, ρ19, ρ20, ρ21, ρ22, ρ23, ρ24, Kd.isRo, ρ25, ρ26, bldV, Nat.reduceLeDiff, Int.reduceMul, Int.reduceAdd, Int.reduceSub, Int.reduceToNat, maxLen_eq, zeros_one, appS_some, appV_n, appV_v, appH_t, appH_f, Kd.isEx, ρ27, partV, CH.set_set, lkV, lkR, isKey, mupV, nxtV, ρ28, ρ29, hpm]) | (with_reducible first | refine condK_dec (fun _ => ?_) fun _ => ?_ | refine grd_dec (fun _ => ?_) fun _ => ?_ | refine egrd_dec (fun _ => ?_) fun _ => ?_))
  refine (right_wp hW top ht1 ht2 (by omega) hrs).mono fun v K1 ⟨hv, hx1⟩ => ?_
  subst hv
  have hn1 := hx1.nx
  have hpm1 := (hx1.ob _ h1).trans hpm
  have hob1 := (hx1.ob _ h2).trans hob
  cases hrt : rtB ws top roots with
  | false =>
    repeat' (first | (simp (disch := first | omega | (decide +kernel) | (repeat first | assumption | exact HExt.refl _ | refine HExt.set ?_ (by first | omega | (simp only [new_nx, set_nx]; omega)) _ | refine HExt.new ?_ _)) only [↓RD, RU, accW_t, accW_f, isW, ↓putF_get, ↓putF_none, ↓evF_t, ↓evF_c, ↓evF_f, new_nx, set_nx, new_get, set_get, getD_zero, getD_succ, u_not, pop, lop, aop, wop, resL, resV, tupleV, akV, isVal, isCell, Value.cells, ρ0, ρ1, ρ2, ρ3, ρ4, ↓reduceIte, Nat.reduceEqDiff, Nat.reduceAdd, Int.reduceOfNat, Int.reduceNegSucc, reduceCtorEq, ρ5, ρ6, ρ7, ρ8, srcR_c, src_n, src_v, src_s, bnd, lenV, capV, ρ9, ρ10, ρ11, ρ12, ρ13, ρ14, ρ15, ρ16, ρ17, ρ18, ρ19, ρ20, ρ21, ρ22, ρ23, ρ24, Kd.isRo, ρ25, ρ26, bldV, Nat.reduceLeDiff, Int.reduceMul, Int.reduceAdd, Int.reduceSub, Int.reduceToNat, maxLen_eq, zeros_one, appS_some, appV_n, appV_v, appH_t, appH_f, Kd.isEx, ρ27, partV, CH.set_set, lkV, lkR, isKey, mupV, nxtV, ρ28, ρ29]) | (with_reducible first | refine condK_dec (fun _ => ?_) fun _ => ?_ | refine grd_dec (fun _ => ?_) fun _ => ?_ | refine egrd_dec (fun _ => ?_) fun _ => ?_))
    exact ⟨hn1, fun x hx _ _ => hx1.ob x hx, .inl ⟨hrt, rfl, hx1.ob _ h2, hx1.ob _ h1⟩⟩
  | true =>
  have hrt0 := hrt
  unfold rtB at hrt
  cases hf : formF ws top with
  | none => rw [hf] at hrt; cases hrt
  | some l =>
  have ht : 1 ≤ top ∧ ws.length ≤ 1048576 ∧ top ≤ ws.length := by
    unfold formF at hf
    split at hf
    · cases hf
    · rename_i hg; omega
  obtain ⟨tn, rfl⟩ := Int.eq_ofNat_of_zero_le (show 0 ≤ top by omega)
  obtain ⟨ls, rfl, hF, hrg⟩ := form_range hu' hf
  have hrok := rt_ok (sl_u64 hrs) hf hrt0
  repeat' (first | (simp (disch := first | omega | (decide +kernel) | (repeat first | assumption | exact HExt.refl _ | refine HExt.set ?_ (by first | omega | (simp only [new_nx, set_nx]; omega)) _ | refine HExt.new ?_ _)) only [↓RD, RU, accW_t, accW_f, isW, ↓putF_get, ↓putF_none, ↓evF_t, ↓evF_c, ↓evF_f, new_nx, set_nx, new_get, set_get, getD_zero, getD_succ, u_not, pop, lop, aop, wop, resL, resV, tupleV, akV, isVal, isCell, Value.cells, ρ0, ρ1, ρ2, ρ3, ρ4, ↓reduceIte, Nat.reduceEqDiff, Nat.reduceAdd, Int.reduceOfNat, Int.reduceNegSucc, reduceCtorEq, ρ5, ρ6, ρ7, ρ8, srcR_c, src_n, src_v, src_s, bnd, lenV, capV, ρ9, ρ10, ρ11, ρ12, ρ13, ρ14, ρ15, ρ16, ρ17, ρ18, ρ19, ρ20, ρ21, ρ22, ρ23, ρ24, Kd.isRo, ρ25, ρ26, bldV, Nat.reduceLeDiff, Int.reduceMul, Int.reduceAdd, Int.reduceSub, Int.reduceToNat, maxLen_eq, zeros_one, appS_some, appV_n, appV_v, appH_t, appH_f, Kd.isEx, ρ27, partV, CH.set_set, lkV, lkR, isKey, mupV, nxtV, ρ28, ρ29, hpm1]) | (with_reducible first | refine condK_dec (fun _ => ?_) fun _ => ?_ | refine grd_dec (fun _ => ?_) fun _ => ?_ | refine egrd_dec (fun _ => ?_) fun _ => ?_))
  obtain ⟨K2, hK2⟩ : ∃ K2, K2 = ((K1.new (.cells [.slice none 0 0] 22 .ex)).set K1.nx (.cells [.slice (some ⟨b, 0, none⟩) ws.length c] 22 .ex)) := ⟨_, rfl⟩
  have hn2 : K2.nx = K1.nx + 1 := by rw [hK2]; rfl
  have hold2 : ∀ x, x < K1.nx → K2.ob x = K1.ob x := fun x hx => by rw [hK2, set_get, if_neg (by omega), new_get, if_neg (by omega)]
  have hE2 : HExt H K2 := ⟨by omega, fun x hx => (hold2 x (by omega)).trans (hx1.ob x hx)⟩
  have hp2 : K2.ob K1.nx = .cells [.slice (some ⟨b, 0, none⟩) ws.length c] 22 .ex := by rw [hK2, set_get, if_pos rfl]
  rw [← hK2]
  refine (mark_wp (c := c) hF rfl hu' hrok (hrs.good (CInt.good _) hE2) hq (by omega) ((hold2 _ (by omega)).trans hob1) hro).mono fun v K3 ⟨hn3, ho3, hr3⟩ => ?_
  have hpm3 : K3.ob pm = _ := (ho3 _ (by omega) h3).trans ((hold2 _ (by omega)).trans hpm1)
  have hp3 : K3.ob K1.nx = _ := (ho3 _ (by omega) (by omega)).trans hp2
  have hq3 : ∀ x, x < H.nx → x ≠ b → K3.ob x = H.ob x := fun x hx hb => by rw [ho3 x (by omega) hb, hold2 x (by omega)]; exact hx1.ob x hx
  have htop := hF.top
  repeat' (first | (simp (disch := first | omega | (decide +kernel) | (repeat first | assumption | exact HExt.refl _ | refine HExt.set ?_ (by first | omega | (simp only [new_nx, set_nx]; omega)) _ | refine HExt.new ?_ _)) only [↓RD, RU, accW_t, accW_f, isW, ↓putF_get, ↓putF_none, ↓evF_t, ↓evF_c, ↓evF_f, new_nx, set_nx, new_get, set_get, getD_zero, getD_succ, u_not, pop, lop, aop, wop, resL, resV, tupleV, akV, isVal, isCell, Value.cells, ρ0, ρ1, ρ2, ρ3, ρ4, ↓reduceIte, Nat.reduceEqDiff, Nat.reduceAdd, Int.reduceOfNat, Int.reduceNegSucc, reduceCtorEq, ρ5, ρ6, ρ7, ρ8, srcR_c, src_n, src_v, src_s, bnd, lenV, capV, ρ9, ρ10, ρ11, ρ12, ρ13, ρ14, ρ15, ρ16, ρ17, ρ18, ρ19, ρ20, ρ21, ρ22, ρ23, ρ24, Kd.isRo, ρ25, ρ26, bldV, Nat.reduceLeDiff, Int.reduceMul, Int.reduceAdd, Int.reduceSub, Int.reduceToNat, maxLen_eq, zeros_one, appS_some, appV_n, appV_v, appH_t, appH_f, Kd.isEx, ρ27, partV, CH.set_set, lkV, lkR, isKey, mupV, nxtV, ρ28, ρ29, hp3, hpm3, objects_iff]) | (with_reducible first | refine condK_dec (fun _ => ?_) fun _ => ?_ | refine grd_dec (fun _ => ?_) fun _ => ?_ | refine egrd_dec (fun _ => ?_) fun _ => ?_))
  obtain ⟨K4, hK4⟩ : ∃ K4, K4 = ((K3.new (.cells [.int .i64 0] 3 .ex)).set K3.nx (.cells [.int .i64 1] 3 .ex)) := ⟨_, rfl⟩
  have hn4 : K4.nx = K3.nx + 1 := by rw [hK4]; rfl
  have hold4 : ∀ x, x < K3.nx → K4.ob x = K3.ob x := fun x hx => by rw [hK4, set_get, if_neg (by omega), new_get, if_neg (by omega)]
  have ht4 : K4.ob K3.nx = .cells [.int .i64 1] 3 .ex := by rw [hK4, set_get, if_pos rfl]
  have e4 : K3.nx + 1 = K4.nx := hn4.symm
  rw [← hK4]
  rw [e4]
  refine (colA_loop (K3 := K4) (pw := K1.nx) (pto := K3.nx) (c := c) hF rfl ((hold4 _ (by omega)).trans hr3) hro (sp_mk hF) ((hold4 _ (by omega)).trans hp3) ht4 (by omega) (by omega) (by omega) (by omega) (by omega) (by omega) (by repeat' (first | (simp (disch := first | omega | (decide +kernel) | (repeat first | assumption | exact HExt.refl _ | refine HExt.set ?_ (by first | omega | (simp only [new_nx, set_nx]; omega)) _ | refine HExt.new ?_ _)) only [↓RD, RU, accW_t, accW_f, isW, ↓putF_get, ↓putF_none, ↓evF_t, ↓evF_c, ↓evF_f, new_nx, set_nx, new_get, set_get, getD_zero, getD_succ, u_not, pop, lop, aop, wop, resL, resV, tupleV, akV, isVal, isCell, Value.cells, ρ0, ρ1, ρ2, ρ3, ρ4, ↓reduceIte, Nat.reduceEqDiff, Nat.reduceAdd, Int.reduceOfNat, Int.reduceNegSucc, reduceCtorEq, ρ5, ρ6, ρ7, ρ8, srcR_c, src_n, src_v, src_s, bnd, lenV, capV, ρ9, ρ10, ρ11, ρ12, ρ13, ρ14, ρ15, ρ16, ρ17, ρ18, ρ19, ρ20, ρ21, ρ22, ρ23, ρ24, Kd.isRo, ρ25, ρ26, bldV, Nat.reduceLeDiff, Int.reduceMul, Int.reduceAdd, Int.reduceSub, Int.reduceToNat, maxLen_eq, zeros_one, appS_some, appV_n, appV_v, appH_t, appH_f, Kd.isEx, ρ27, partV, CH.set_set, lkV, lkR, isKey, mupV, nxtV, ρ28, ρ29]) | (with_reducible first | refine condK_dec (fun _ => ?_) fun _ => ?_ | refine grd_dec (fun _ => ?_) fun _ => ?_ | refine egrd_dec (fun _ => ?_) fun _ => ?_))) (by repeat' (first | (simp (disch := first | omega | (decide +kernel) | (repeat first | assumption | exact HExt.refl _ | refine HExt.set ?_ (by first | omega | (simp only [new_nx, set_nx]; omega)) _ | refine HExt.new ?_ _)) only [↓RD, RU, accW_t, accW_f, isW, ↓putF_get, ↓putF_none, ↓evF_t, ↓evF_c, ↓evF_f, new_nx, set_nx, new_get, set_get, getD_zero, getD_succ, u_not, pop, lop, aop, wop, resL, resV, tupleV, akV, isVal, isCell, Value.cells, ρ0, ρ1, ρ2, ρ3, ρ4, ↓reduceIte, Nat.reduceEqDiff, Nat.reduceAdd, Int.reduceOfNat, Int.reduceNegSucc, reduceCtorEq, ρ5, ρ6, ρ7, ρ8, srcR_c, src_n, src_v, src_s, bnd, lenV, capV, ρ9, ρ10, ρ11, ρ12, ρ13, ρ14, ρ15, ρ16, ρ17, ρ18, ρ19, ρ20, ρ21, ρ22, ρ23, ρ24, Kd.isRo, ρ25, ρ26, bldV, Nat.reduceLeDiff, Int.reduceMul, Int.reduceAdd, Int.reduceSub, Int.reduceToNat, maxLen_eq, zeros_one, appS_some, appV_n, appV_v, appH_t, appH_f, Kd.isEx, ρ27, partV, CH.set_set, lkV, lkR, isKey, mupV, nxtV, ρ28, ρ29]) | (with_reducible first | refine condK_dec (fun _ => ?_) fun _ => ?_ | refine grd_dec (fun _ => ?_) fun _ => ?_ | refine egrd_dec (fun _ => ?_) fun _ => ?_)))).mono fun u K5 ⟨i1, i2, i3, i4, f5, i5, i6⟩ => ?_
  refine (rangeK_some i3 (by decide)).2 ?_
  simp only [jumpX]
  generalize hK6 : CH.set K5 (K4.nx + 2) _ = K6
  have hn6 : K6.nx = K4.nx + 3 := by rw [← hK6]; exact i1
  have ho6 : ∀ x, x ≠ K4.nx + 2 → K6.ob x = K5.ob x := fun x hx => by rw [← hK6, set_get, if_neg hx]
  have hb6 : K6.ob b = .cells (fnW ws.length f5) 42 kd := (ho6 _ (by omega)).trans i5
  have hp6 : K6.ob K1.nx = _ := (ho6 _ (by omega)).trans ((i2 _ (by omega) (by omega) (by omega)).trans ((hold4 _ (by omega)).trans hp3))
  have hpm6 : K6.ob pm = _ := (ho6 _ (by omega)).trans ((i2 _ (by omega) h3 (by omega)).trans ((hold4 _ (by omega)).trans hpm3))
  have ht6 : K6.ob K3.nx = _ := (ho6 _ (by omega)).trans i4
  have hq6 : ∀ x, x < H.nx → x ≠ b → K6.ob x = H.ob x := fun x hx hb => by rw [ho6 x (by omega), i2 x (by omega) hb (by omega), hold4 x (by omega)]; exact hq3 x hx hb
  repeat' (first | (simp (disch := first | omega | (decide +kernel) | (repeat first | assumption | exact HExt.refl _ | refine HExt.set ?_ (by first | omega | (simp only [new_nx, set_nx]; omega)) _ | refine HExt.new ?_ _)) only [↓RD, RU, accW_t, accW_f, isW, ↓putF_get, ↓putF_none, ↓evF_t, ↓evF_c, ↓evF_f, new_nx, set_nx, new_get, set_get, getD_zero, getD_succ, u_not, pop, lop, aop, wop, resL, resV, tupleV, akV, isVal, isCell, Value.cells, ρ0, ρ1, ρ2, ρ3, ρ4, ↓reduceIte, Nat.reduceEqDiff, Nat.reduceAdd, Int.reduceOfNat, Int.reduceNegSucc, reduceCtorEq, ρ5, ρ6, ρ7, ρ8, srcR_c, src_n, src_v, src_s, bnd, lenV, capV, ρ9, ρ10, ρ11, ρ12, ρ13, ρ14, ρ15, ρ16, ρ17, ρ18, ρ19, ρ20, ρ21, ρ22, ρ23, ρ24, Kd.isRo, ρ25, ρ26, bldV, Nat.reduceLeDiff, Int.reduceMul, Int.reduceAdd, Int.reduceSub, Int.reduceToNat, maxLen_eq, zeros_one, appS_some, appV_n, appV_v, appH_t, appH_f, Kd.isEx, ρ27, partV, CH.set_set, lkV, lkR, isKey, mupV, nxtV, ρ28, ρ29]) | (with_reducible first | refine condK_dec (fun _ => ?_) fun _ => ?_ | refine grd_dec (fun _ => ?_) fun _ => ?_ | refine egrd_dec (fun _ => ?_) fun _ => ?_))
  obtain ⟨K7, hK7⟩ : ∃ K7, K7 = ((K6.new (.cells [.nilFunc] 48 .ex)).set K6.nx (.cells [.func (.func 19) #[] #[.pointer (some ⟨K1.nx, 0, none⟩)]] 48 .ex)) := ⟨_, rfl⟩
  have hn7 : K7.nx = K6.nx + 1 := by rw [hK7]; rfl
  have hold7 : ∀ x, x < K6.nx → K7.ob x = K6.ob x := fun x hx => by rw [hK7, set_get, if_neg (by omega), new_get, if_neg (by omega)]
  have hf7 : K7.ob K6.nx = .cells [.func (.func 19) #[] #[.pointer (some ⟨K1.nx, 0, none⟩)]] 48 .ex := by rw [hK7, set_get, if_pos rfl]
  rw [← hK7]
  have hone : ∀ x ∈ ls, Rc ws roots x → f5 (x + 1) = (nto ws roots ls x : Int) := fun x hx hrx => by
    rw [i6.ob x hx 1 (by have := hF.ch.mem x hx; omega), GA_one hx hrx]
  refine loop_w (fun m fr K => ∃ (i : Nat) (v : Value), m = roots.length - i ∧ i ≤ roots.length ∧ fr 65 = .int .i64 (i : Int) ∧ fr 10 = v ∧ Grw K7 42 1 (ints .u64) K v ((roots.take i).map (turnF ws roots ls)) ∧ HExt K7 K) (n := roots.length) ⟨0, _, rfl, Nat.zero_le _, by (repeat' (first | (simp (disch := first | omega | (decide +kernel) | (repeat first | assumption | exact HExt.refl _ | refine HExt.set ?_ (by first | omega | (simp only [new_nx, set_nx]; omega)) _ | refine HExt.new ?_ _)) only [↓RD, RU, accW_t, accW_f, isW, ↓putF_get, ↓putF_none, ↓evF_t, ↓evF_c, ↓evF_f, new_nx, set_nx, new_get, set_get, getD_zero, getD_succ, u_not, pop, lop, aop, wop, resL, resV, tupleV, akV, isVal, isCell, Value.cells, ρ0, ρ1, ρ2, ρ3, ρ4, ↓reduceIte, Nat.reduceEqDiff, Nat.reduceAdd, Int.reduceOfNat, Int.reduceNegSucc, reduceCtorEq, ρ5, ρ6, ρ7, ρ8, srcR_c, src_n, src_v, src_s, bnd, lenV, capV, ρ9, ρ10, ρ11, ρ12, ρ13, ρ14, ρ15, ρ16, ρ17, ρ18, ρ19, ρ20, ρ21, ρ22, ρ23, ρ24, Kd.isRo, ρ25, ρ26, bldV, Nat.reduceLeDiff, Int.reduceMul, Int.reduceAdd, Int.reduceSub, Int.reduceToNat, maxLen_eq, zeros_one, appS_some, appV_n, appV_v, appH_t, appH_f, Kd.isEx, ρ27, partV, CH.set_set, lkV, lkR, isKey, mupV, nxtV, ρ28, ρ29]) | (with_reducible first | refine condK_dec (fun _ => ?_) fun _ => ?_ | refine grd_dec (fun _ => ?_) fun _ => ?_ | refine egrd_dec (fun _ => ?_) fun _ => ?_))); all_goals rfl, by (repeat' (first | (simp (disch := first | omega | (decide +kernel) | (repeat first | assumption | exact HExt.refl _ | refine HExt.set ?_ (by first | omega | (simp only [new_nx, set_nx]; omega)) _ | refine HExt.new ?_ _)) only [↓RD, RU, accW_t, accW_f, isW, ↓putF_get, ↓putF_none, ↓evF_t, ↓evF_c, ↓evF_f, new_nx, set_nx, new_get, set_get, getD_zero, getD_succ, u_not, pop, lop, aop, wop, resL, resV, tupleV, akV, isVal, isCell, Value.cells, ρ0, ρ1, ρ2, ρ3, ρ4, ↓reduceIte, Nat.reduceEqDiff, Nat.reduceAdd, Int.reduceOfNat, Int.reduceNegSucc, reduceCtorEq, ρ5, ρ6, ρ7, ρ8, srcR_c, src_n, src_v, src_s, bnd, lenV, capV, ρ9, ρ10, ρ11, ρ12, ρ13, ρ14, ρ15, ρ16, ρ17, ρ18, ρ19, ρ20, ρ21, ρ22, ρ23, ρ24, Kd.isRo, ρ25, ρ26, bldV, Nat.reduceLeDiff, Int.reduceMul, Int.reduceAdd, Int.reduceSub, Int.reduceToNat, maxLen_eq, zeros_one, appS_some, appV_n, appV_v, appH_t, appH_f, Kd.isEx, ρ27, partV, CH.set_set, lkV, lkR, isKey, mupV, nxtV, ρ28, ρ29]) | (with_reducible first | refine condK_dec (fun _ => ?_) fun _ => ?_ | refine grd_dec (fun _ => ?_) fun _ => ?_ | refine egrd_dec (fun _ => ?_) fun _ => ?_))); all_goals rfl, Grw.nil, HExt.refl _⟩ ?_
  rintro m fr K8 ⟨i, v, rfl, hi, f65, f10, hG, hx8⟩ hag
  have hn8 := hx8.nx
  have hb8 := (hx8.ob b (by omega)).trans ((hold7 _ (by omega)).trans hb6)
  have hp8 := (hx8.ob K1.nx (by omega)).trans ((hold7 _ (by omega)).trans hp6)
  have hpm8 := (hx8.ob pm (by omega)).trans ((hold7 _ (by omega)).trans hpm6)
  have ht8 := (hx8.ob K3.nx (by omega)).trans ((hold7 _ (by omega)).trans ht6)
  have hf8 := (hx8.ob K6.nx (by omega)).trans hf7
  have hq8 : ∀ x, x < H.nx → x ≠ b → K8.ob x = H.ob x := fun x hx hb => by rw [hx8.ob x (by omega), hold7 x (by omega)]; exact hq6 x hx hb
  by_cases hil : i < roots.length
  case pos =>
    obtain ⟨l, o, os, e, kq, rfl, hl1, hcq, hm, hobq, hol, hos, hwf⟩ := hrs.ints (by omega)
    have hgi := hos i hil
    rw [maxLen_eq] at hm
    have hlb : l ≠ b := hq l o rfl
    have hobK : K8.ob l = .cells os e kq := (hq8 l hl1 hlb).trans hobq
    obtain ⟨w, hw⟩ : ∃ w, roots.getD i 0 = w := ⟨_, rfl⟩
    have hrw : roots[i]? = some w := by rw [← hw, List.getD_eq_getElem?_getD, List.getElem?_eq_getElem hil]; rfl
    rw [hw] at hgi
    have hwm : w ∈ roots := List.mem_of_getElem? hrw
    have hwi := sl_u64 hrs w hwm
    have hkw := hrok w hwm
    repeat' (first | (simp (disch := first | omega | (decide +kernel) | (repeat first | assumption | exact HExt.refl _ | refine HExt.set ?_ (by first | omega | (simp only [new_nx, set_nx]; omega)) _ | refine HExt.new ?_ _)) only [↓RD, RU, accW_t, accW_f, isW, ↓putF_get, ↓putF_none, ↓evF_t, ↓evF_c, ↓evF_f, new_nx, set_nx, new_get, set_get, getD_zero, getD_succ, u_not, pop, lop, aop, wop, resL, resV, tupleV, akV, isVal, isCell, Value.cells, ρ0, ρ1, ρ2, ρ3, ρ4, ↓reduceIte, Nat.reduceEqDiff, Nat.reduceAdd, Int.reduceOfNat, Int.reduceNegSucc, reduceCtorEq, ρ5, ρ6, ρ7, ρ8, srcR_c, src_n, src_v, src_s, bnd, lenV, capV, ρ9, ρ10, ρ11, ρ12, ρ13, ρ14, ρ15, ρ16, ρ17, ρ18, ρ19, ρ20, ρ21, ρ22, ρ23, ρ24, Kd.isRo, ρ25, ρ26, bldV, Nat.reduceLeDiff, Int.reduceMul, Int.reduceAdd, Int.reduceSub, Int.reduceToNat, maxLen_eq, zeros_one, appS_some, appV_n, appV_v, appH_t, appH_f, Kd.isEx, ρ27, partV, CH.set_set, lkV, lkR, isKey, mupV, nxtV, ρ28, ρ29, f65, f10, hag, hobK, hgi, hf8]) | (with_reducible first | refine condK_dec (fun _ => ?_) fun _ => ?_ | refine grd_dec (fun _ => ?_) fun _ => ?_ | refine egrd_dec (fun _ => ?_) fun _ => ?_))
    refine (turn_wp hF rfl hb8 hone hp8 hwi.1 hwi.2 hkw.1 fun h0 => ⟨hkw.2 h0, .root hwm h0⟩).mono fun u K9 ⟨hv9, hK9⟩ => ?_
    subst hv9 hK9
    repeat' (first | (simp (disch := first | omega | (decide +kernel) | (repeat first | assumption | exact HExt.refl _ | refine HExt.set ?_ (by first | omega | (simp only [new_nx, set_nx]; omega)) _ | refine HExt.new ?_ _)) only [↓RD, RU, accW_t, accW_f, isW, ↓putF_get, ↓putF_none, ↓evF_t, ↓evF_c, ↓evF_f, new_nx, set_nx, new_get, set_get, getD_zero, getD_succ, u_not, pop, lop, aop, wop, resL, resV, tupleV, akV, isVal, isCell, Value.cells, ρ0, ρ1, ρ2, ρ3, ρ4, ↓reduceIte, Nat.reduceEqDiff, Nat.reduceAdd, Int.reduceOfNat, Int.reduceNegSucc, reduceCtorEq, ρ5, ρ6, ρ7, ρ8, srcR_c, src_n, src_v, src_s, bnd, lenV, capV, ρ9, ρ10, ρ11, ρ12, ρ13, ρ14, ρ15, ρ16, ρ17, ρ18, ρ19, ρ20, ρ21, ρ22, ρ23, ρ24, Kd.isRo, ρ25, ρ26, bldV, Nat.reduceLeDiff, Int.reduceMul, Int.reduceAdd, Int.reduceSub, Int.reduceToNat, maxLen_eq, zeros_one, appS_some, appV_n, appV_v, appH_t, appH_f, Kd.isEx, ρ27, partV, CH.set_set, lkV, lkR, isKey, mupV, nxtV, ρ28, ρ29, f65, f10, hag]) | (with_reducible first | refine condK_dec (fun _ => ?_) fun _ => ?_ | refine grd_dec (fun _ => ?_) fun _ => ?_ | refine egrd_dec (fun _ => ?_) fun _ => ?_))
    have htk : (roots.take (i + 1)).map (turnF ws roots ls) = (roots.take i).map (turnF ws roots ls) ++ [turnF ws roots ls w] := by
      obtain ⟨hi', rfl⟩ := List.getElem?_eq_some_iff.1 hrw
      rw [List.take_succ_eq_append_getElem hi', List.map_append]; rfl
    have htl : ((roots.take i).map (turnF ws roots ls)).length = i := by simp; omega
    refine optW_app (ints_ok .u64) (ys := [turnF ws roots ls w]) (hG.ext (by (repeat (first | assumption | exact HExt.refl _ | (refine HExt.set ?_ (by first | omega | (simp only [new_nx, set_nx]; omega)) _) | (refine HExt.new ?_ _))))) (hx8.new _) (by simp only [htl, List.length_singleton]; omega) (by simp only [htl, List.length_singleton]; omega) rfl rfl fun v' K9' j1 j2 j3 j4 => ?_
    repeat' (first | (simp (disch := first | omega | (decide +kernel) | (repeat first | assumption | exact HExt.refl _ | refine HExt.set ?_ (by first | omega | (simp only [new_nx, set_nx]; omega)) _ | refine HExt.new ?_ _)) only [↓RD, RU, accW_t, accW_f, isW, ↓putF_get, ↓putF_none, ↓evF_t, ↓evF_c, ↓evF_f, new_nx, set_nx, new_get, set_get, getD_zero, getD_succ, u_not, pop, lop, aop, wop, resL, resV, tupleV, akV, isVal, isCell, Value.cells, ρ0, ρ1, ρ2, ρ3, ρ4, ↓reduceIte, Nat.reduceEqDiff, Nat.reduceAdd, Int.reduceOfNat, Int.reduceNegSucc, reduceCtorEq, ρ5, ρ6, ρ7, ρ8, srcR_c, src_n, src_v, src_s, bnd, lenV, capV, ρ9, ρ10, ρ11, ρ12, ρ13, ρ14, ρ15, ρ16, ρ17, ρ18, ρ19, ρ20, ρ21, ρ22, ρ23, ρ24, Kd.isRo, ρ25, ρ26, bldV, Nat.reduceLeDiff, Int.reduceMul, Int.reduceAdd, Int.reduceSub, Int.reduceToNat, maxLen_eq, zeros_one, appS_some, appV_n, appV_v, appH_t, appH_f, Kd.isEx, ρ27, partV, CH.set_set, lkV, lkR, isKey, mupV, nxtV, ρ28, ρ29, f65, hag]) | (with_reducible first | refine condK_dec (fun _ => ?_) fun _ => ?_ | refine grd_dec (fun _ => ?_) fun _ => ?_ | refine egrd_dec (fun _ => ?_) fun _ => ?_))
    exact ⟨_, by omega, i + 1, v', rfl, by omega, rfl, rfl, by rw [htk]; exact j1, j2⟩
  case neg =>
  have hie : i = roots.length := by omega
  subst hie
  rw [List.take_length] at hG
  repeat' (first | (simp (disch := first | omega | (decide +kernel) | (repeat first | assumption | exact HExt.refl _ | refine HExt.set ?_ (by first | omega | (simp only [new_nx, set_nx]; omega)) _ | refine HExt.new ?_ _)) only [↓RD, RU, accW_t, accW_f, isW, ↓putF_get, ↓putF_none, ↓evF_t, ↓evF_c, ↓evF_f, new_nx, set_nx, new_get, set_get, getD_zero, getD_succ, u_not, pop, lop, aop, wop, resL, resV, tupleV, akV, isVal, isCell, Value.cells, ρ0, ρ1, ρ2, ρ3, ρ4, ↓reduceIte, Nat.reduceEqDiff, Nat.reduceAdd, Int.reduceOfNat, Int.reduceNegSucc, reduceCtorEq, ρ5, ρ6, ρ7, ρ8, srcR_c, src_n, src_v, src_s, bnd, lenV, capV, ρ9, ρ10, ρ11, ρ12, ρ13, ρ14, ρ15, ρ16, ρ17, ρ18, ρ19, ρ20, ρ21, ρ22, ρ23, ρ24, Kd.isRo, ρ25, ρ26, bldV, Nat.reduceLeDiff, Int.reduceMul, Int.reduceAdd, Int.reduceSub, Int.reduceToNat, maxLen_eq, zeros_one, appS_some, appV_n, appV_v, appH_t, appH_f, Kd.isEx, ρ27, partV, CH.set_set, lkV, lkR, isKey, mupV, nxtV, ρ28, ρ29, f65, f10, hag, hp8, hpm8, objects_iff]) | (with_reducible first | refine condK_dec (fun _ => ?_) fun _ => ?_ | refine grd_dec (fun _ => ?_) fun _ => ?_ | refine egrd_dec (fun _ => ?_) fun _ => ?_))
  refine (colB_loop (K3 := K8) (pw := K1.nx) (pt := K6.nx) (c := c) hF hu' rfl hb8 hro i6 hp8 hf8 (by omega) (by omega) (by omega) (by omega) (by omega) (by repeat' (first | (simp (disch := first | omega | (decide +kernel) | (repeat first | assumption | exact HExt.refl _ | refine HExt.set ?_ (by first | omega | (simp only [new_nx, set_nx]; omega)) _ | refine HExt.new ?_ _)) only [↓RD, RU, accW_t, accW_f, isW, ↓putF_get, ↓putF_none, ↓evF_t, ↓evF_c, ↓evF_f, new_nx, set_nx, new_get, set_get, getD_zero, getD_succ, u_not, pop, lop, aop, wop, resL, resV, tupleV, akV, isVal, isCell, Value.cells, ρ0, ρ1, ρ2, ρ3, ρ4, ↓reduceIte, Nat.reduceEqDiff, Nat.reduceAdd, Int.reduceOfNat, Int.reduceNegSucc, reduceCtorEq, ρ5, ρ6, ρ7, ρ8, srcR_c, src_n, src_v, src_s, bnd, lenV, capV, ρ9, ρ10, ρ11, ρ12, ρ13, ρ14, ρ15, ρ16, ρ17, ρ18, ρ19, ρ20, ρ21, ρ22, ρ23, ρ24, Kd.isRo, ρ25, ρ26, bldV, Nat.reduceLeDiff, Int.reduceMul, Int.reduceAdd, Int.reduceSub, Int.reduceToNat, maxLen_eq, zeros_one, appS_some, appV_n, appV_v, appH_t, appH_f, Kd.isEx, ρ27, partV, CH.set_set, lkV, lkR, isKey, mupV, nxtV, ρ28, ρ29, hag]) | (with_reducible first | refine condK_dec (fun _ => ?_) fun _ => ?_ | refine grd_dec (fun _ => ?_) fun _ => ?_ | refine egrd_dec (fun _ => ?_) fun _ => ?_))) (by repeat' (first | (simp (disch := first | omega | (decide +kernel) | (repeat first | assumption | exact HExt.refl _ | refine HExt.set ?_ (by first | omega | (simp only [new_nx, set_nx]; omega)) _ | refine HExt.new ?_ _)) only [↓RD, RU, accW_t, accW_f, isW, ↓putF_get, ↓putF_none, ↓evF_t, ↓evF_c, ↓evF_f, new_nx, set_nx, new_get, set_get, getD_zero, getD_succ, u_not, pop, lop, aop, wop, resL, resV, tupleV, akV, isVal, isCell, Value.cells, ρ0, ρ1, ρ2, ρ3, ρ4, ↓reduceIte, Nat.reduceEqDiff, Nat.reduceAdd, Int.reduceOfNat, Int.reduceNegSucc, reduceCtorEq, ρ5, ρ6, ρ7, ρ8, srcR_c, src_n, src_v, src_s, bnd, lenV, capV, ρ9, ρ10, ρ11, ρ12, ρ13, ρ14, ρ15, ρ16, ρ17, ρ18, ρ19, ρ20, ρ21, ρ22, ρ23, ρ24, Kd.isRo, ρ25, ρ26, bldV, Nat.reduceLeDiff, Int.reduceMul, Int.reduceAdd, Int.reduceSub, Int.reduceToNat, maxLen_eq, zeros_one, appS_some, appV_n, appV_v, appH_t, appH_f, Kd.isEx, ρ27, partV, CH.set_set, lkV, lkR, isKey, mupV, nxtV, ρ28, ρ29, hag]) | (with_reducible first | refine condK_dec (fun _ => ?_) fun _ => ?_ | refine grd_dec (fun _ => ?_) fun _ => ?_ | refine egrd_dec (fun _ => ?_) fun _ => ?_)))).mono fun u K9 ⟨j1, j2, j3, f9, j4, j5⟩ => ?_
  refine (rangeK_some j3 (by decide)).2 ?_
  simp only [jumpX]
  generalize hKa : CH.set K9 (K8.nx + 2) _ = Ka
  have hna : Ka.nx = K9.nx := by rw [← hKa]; rfl
  have hoa : ∀ x, x ≠ K8.nx + 2 → Ka.ob x = K9.ob x := fun x hx => by rw [← hKa, set_get, if_neg hx]
  have hba : Ka.ob b = .cells (fnW ws.length f9) 42 kd := (hoa _ (by omega)).trans j4
  have hpa : Ka.ob K1.nx = _ := (hoa _ (by omega)).trans ((j2 _ (by omega) (by omega)).trans hp8)
  have hpma : Ka.ob pm = _ := (hoa _ (by omega)).trans ((j2 _ (by omega) h3).trans hpm8)
  have hta : Ka.ob K3.nx = _ := (hoa _ (by omega)).trans ((j2 _ (by omega) (by omega)).trans ht8)
  have hqa : ∀ x, x < H.nx → x ≠ b → Ka.ob x = H.ob x := fun x hx hb => by rw [hoa x (by omega), j2 x (by omega) hb]; exact hq8 x hx hb
  have hGa : Grw H 42 1 (ints .u64) Ka v (roots.map (turnF ws roots ls)) := by
    rcases hG with g | ⟨bb, kk, e, g1, g2, g3, g4⟩
    · exact .inl g
    · exact .inr ⟨bb, kk, e, by omega, by omega, by rw [hoa _ (by omega), j2 _ g2 (by omega)]; exact g3, g4⟩
  repeat' (first | (simp (disch := first | omega | (decide +kernel) | (repeat first | assumption | exact HExt.refl _ | refine HExt.set ?_ (by first | omega | (simp only [new_nx, set_nx]; omega)) _ | refine HExt.new ?_ _)) only [↓RD, RU, accW_t, accW_f, isW, ↓putF_get, ↓putF_none, ↓evF_t, ↓evF_c, ↓evF_f, new_nx, set_nx, new_get, set_get, getD_zero, getD_succ, u_not, pop, lop, aop, wop, resL, resV, tupleV, akV, isVal, isCell, Value.cells, ρ0, ρ1, ρ2, ρ3, ρ4, ↓reduceIte, Nat.reduceEqDiff, Nat.reduceAdd, Int.reduceOfNat, Int.reduceNegSucc, reduceCtorEq, ρ5, ρ6, ρ7, ρ8, srcR_c, src_n, src_v, src_s, bnd, lenV, capV, ρ9, ρ10, ρ11, ρ12, ρ13, ρ14, ρ15, ρ16, ρ17, ρ18, ρ19, ρ20, ρ21, ρ22, ρ23, ρ24, Kd.isRo, ρ25, ρ26, bldV, Nat.reduceLeDiff, Int.reduceMul, Int.reduceAdd, Int.reduceSub, Int.reduceToNat, maxLen_eq, zeros_one, appS_some, appV_n, appV_v, appH_t, appH_f, Kd.isEx, ρ27, partV, CH.set_set, lkV, lkR, isKey, mupV, nxtV, ρ28, ρ29, hag]) | (with_reducible first | refine condK_dec (fun _ => ?_) fun _ => ?_ | refine grd_dec (fun _ => ?_) fun _ => ?_ | refine egrd_dec (fun _ => ?_) fun _ => ?_))
  have hlen := hF.len
  have hnd := hF.ch.nodup
  refine loop_w (fun m fr K => ∃ (k a : Nat) (f : Nat → Int), m = ls.length - k ∧ k ≤ ls.length ∧ a = ls.getD k tn ∧ fr 15 = .int .i64 (a : Int) ∧ K.nx = Ka.nx ∧ (∀ x, x ≠ b → K.ob x = Ka.ob x) ∧ K.ob b = .cells (fnW ws.length f) 42 kd ∧ QS ws roots tn ls f k) (n := ls.length)
    ⟨0, 1, f9, rfl, Nat.zero_le _, by
      have := hF.ch.pos 0 (Nat.zero_le _)
      simpa using this.symm, by (repeat' (first | (simp (disch := first | omega | (decide +kernel) | (repeat first | assumption | exact HExt.refl _ | refine HExt.set ?_ (by first | omega | (simp only [new_nx, set_nx]; omega)) _ | refine HExt.new ?_ _)) only [↓RD, RU, accW_t, accW_f, isW, ↓putF_get, ↓putF_none, ↓evF_t, ↓evF_c, ↓evF_f, new_nx, set_nx, new_get, set_get, getD_zero, getD_succ, u_not, pop, lop, aop, wop, resL, resV, tupleV, akV, isVal, isCell, Value.cells, ρ0, ρ1, ρ2, ρ3, ρ4, ↓reduceIte, Nat.reduceEqDiff, Nat.reduceAdd, Int.reduceOfNat, Int.reduceNegSucc, reduceCtorEq, ρ5, ρ6, ρ7, ρ8, srcR_c, src_n, src_v, src_s, bnd, lenV, capV, ρ9, ρ10, ρ11, ρ12, ρ13, ρ14, ρ15, ρ16, ρ17, ρ18, ρ19, ρ20, ρ21, ρ22, ρ23, ρ24, Kd.isRo, ρ25, ρ26, bldV, Nat.reduceLeDiff, Int.reduceMul, Int.reduceAdd, Int.reduceSub, Int.reduceToNat, maxLen_eq, zeros_one, appS_some, appV_n, appV_v, appH_t, appH_f, Kd.isEx, ρ27, partV, CH.set_set, lkV, lkR, isKey, mupV, nxtV, ρ28, ρ29]) | (with_reducible first | refine condK_dec (fun _ => ?_) fun _ => ?_ | refine grd_dec (fun _ => ?_) fun _ => ?_ | refine egrd_dec (fun _ => ?_) fun _ => ?_))); all_goals rfl, rfl, fun _ _ => rfl, hba, QS.start j5⟩ ?_
  rintro m fr2 K ⟨k, a, f, rfl, hk, ha, f15, hnK, hoK, hrow, hQ⟩ hag2
  have hpK := (hoK K1.nx (by omega)).trans hpa
  have hpmK := (hoK pm h3).trans hpma
  by_cases hkl : k < ls.length
  case pos =>
    have hak : ls[k]? = some a := by rw [ha, List.getD_eq_getElem?_getD, List.getElem?_eq_getElem hkl]; rfl
    clear ha
    have ham : a ∈ ls := List.mem_of_getElem? hak
    have hbd := obj_lt2 hF ham
    have hsz := hF.ch.mem a ham
    have hia := idx_at hnd hak
    have hms := mkF_sz (roots := roots) hF ham
    have hbit := mkF_in (roots := roots) hF ham
    have hlt := head_lt hF ham
    have hnt := nto_at (ws := ws) (roots := roots) hnd hak
    have hnx' : a + szN ws a = ls.getD (k + 1) tn := by
      have e1 := hF.ch.pos k hk
      have e2 := hF.ch.pos (k + 1) hkl
      obtain ⟨hk', e3⟩ := List.getElem?_eq_some_iff.1 hak
      rw [List.getD_eq_getElem?_getD, hak] at e1
      simp only [Option.getD_some] at e1
      rw [e2, List.take_succ_eq_append_getElem hk', List.map_append, List.sum_append, e3]
      simp only [List.map_cons, List.map_nil, List.sum_cons, List.sum_nil]; omega
    have hfa : f a = mkF ws roots ls a := by
      have := hQ.ob a ham (by omega) 0 (by omega)
      rw [Nat.add_zero, GB_head ham] at this
      exact this
    have hga := fnW_get (n := ws.length) (f := f) (i := a) (by omega)
    rw [hfa] at hga
    have hm3 := hms.2.2.1
    by_cases hr : Rc ws roots a
    case neg =>
      have hand := hbit.2 hr
      repeat' (first | (simp (disch := first | omega | (decide +kernel) | (repeat first | assumption | exact HExt.refl _ | refine HExt.set ?_ (by first | omega | (simp only [new_nx, set_nx]; omega)) _ | refine HExt.new ?_ _)) only [↓RD, RU, accW_t, accW_f, isW, ↓putF_get, ↓putF_none, ↓evF_t, ↓evF_c, ↓evF_f, new_nx, set_nx, new_get, set_get, getD_zero, getD_succ, u_not, pop, lop, aop, wop, resL, resV, tupleV, akV, isVal, isCell, Value.cells, ρ0, ρ1, ρ2, ρ3, ρ4, ↓reduceIte, Nat.reduceEqDiff, Nat.reduceAdd, Int.reduceOfNat, Int.reduceNegSucc, reduceCtorEq, ρ5, ρ6, ρ7, ρ8, srcR_c, src_n, src_v, src_s, bnd, lenV, capV, ρ9, ρ10, ρ11, ρ12, ρ13, ρ14, ρ15, ρ16, ρ17, ρ18, ρ19, ρ20, ρ21, ρ22, ρ23, ρ24, Kd.isRo, ρ25, ρ26, bldV, Nat.reduceLeDiff, Int.reduceMul, Int.reduceAdd, Int.reduceSub, Int.reduceToNat, maxLen_eq, zeros_one, appS_some, appV_n, appV_v, appH_t, appH_f, Kd.isEx, ρ27, partV, CH.set_set, lkV, lkR, isKey, mupV, nxtV, ρ28, ρ29, f15, hag2, hag, hpK, hpmK, hrow, hga, size_iff, hm3, hand]) | (with_reducible first | refine condK_dec (fun _ => ?_) fun _ => ?_ | refine grd_dec (fun _ => ?_) fun _ => ?_ | refine egrd_dec (fun _ => ?_) fun _ => ?_))
      exact ⟨_, by omega, k + 1, a + szN ws a, f, rfl, hkl, hnx', by rw [Int.natCast_add], hnK, hoK, rfl, hQ.no hak hr⟩
    case pos =>
      have hand := hbit.1 hr
      have hle := nto_le (roots := roots) hF ham
      rw [hnt] at hle
      have hpl := Pk_pos (ws := ws) (roots := roots) (ls := ls) (k := k)
      have hf1 : f (a + 1) = (Pk ws roots ls k : Int) := by
        rw [hQ.ob a ham (by omega) 1 (by omega), GB_one ham hr, hnt]
      have hg1 := fnW_get (n := ws.length) (f := f) (i := a + 1) (by omega)
      rw [hf1] at hg1
      have hmk : mkF ws roots ls a = wd ws a + mkB := by unfold mkF; rw [if_pos ⟨ham, hr⟩]
      have handn := andNot63 (y := wd ws a) (by omega) (by omega)
      rw [← hmk] at handn
      have hs1 := fnW_set (n := ws.length) (f := f) (i := a) (x := wd ws a) (by omega)
      have hs2 := fnW_set (n := ws.length) (f := upF f a (wd ws a)) (i := a + 1) (x := 0) (by omega)
      obtain ⟨P, hP⟩ : ∃ P, Pk ws roots ls k = P := ⟨_, rfl⟩
      obtain ⟨s, hs⟩ : ∃ s, szN ws a = s := ⟨_, rfl⟩
      have hQ2 := hQ.yes hF hak hr
      rw [hP, hs] at hQ2
      rw [hP] at hg1 hle hpl
      rw [hs] at hm3 hsz hnx'
      have hsl1 := slice_all (l := b) (o := 0) (n := ws.length) (c := c) (sz := 1) (lo := (P : Int)) (hi := (P : Int) + (s : Int)) (by omega) (by omega) (by omega)
      have hsl2 := slice_all (l := b) (o := 0) (n := ws.length) (c := c) (sz := 1) (lo := (a : Int)) (hi := (a : Int) + (s : Int)) (by omega) (by omega) (by omega)
      have q1 : ((P : Int) + (s : Int) - (P : Int)).toNat = s := by omega
      have q2 : ((a : Int) + (s : Int) - (a : Int)).toNat = s := by omega
      have q3 : (P : Int).toNat = P := by omega
      have q4 : (a : Int).toNat = a := by omega
      rw [q1, q3, Nat.mul_one, Nat.zero_add] at hsl1
      rw [q2, q4, Nat.mul_one, Nat.zero_add] at hsl2
      have hrow3 : ((K.set b (.cells (fnW ws.length (upF f a (wd ws a))) 42 kd)).set b (.cells (fnW ws.length (upF (upF f a (wd ws a)) (a + 1) 0)) 42 kd)).ob b = .cells (fnW ws.length (upF (upF f a (wd ws a)) (a + 1) 0)) 42 kd := by rw [set_get, if_pos rfl]
      have hok := okSl_own (e := 42) (o := 0) (n := ws.length) (c := c) hrow3
      have hcp := cpy_fn (P := P) (a := a) (s := s) (c1 := ((c : Int) - (P : Int)).toNat) (c2 := ((c : Int) - (a : Int)).toNat) hrow3 hro (by omega) (by omega) (by omega)
      repeat' (first | (simp (disch := first | omega | (decide +kernel) | (repeat first | assumption | exact HExt.refl _ | refine HExt.set ?_ (by first | omega | (simp only [new_nx, set_nx]; omega)) _ | refine HExt.new ?_ _)) only [↓r_seq, ↓r_block, ↓seqK_n, ↓seqK_r, ↓seqK_e, ↓blockK_n, ↓blockK_r, ↓blockK_e, ↓loopI_n, ↓loopI_r, ↓loopI_e, ↓funK_n, ↓funK_r, ↓r_reg, ↓r_drw, ↓r_cond, ↓condK_t, ↓condK_f, ↓i_cons, ↓eitemK, ↓e_nil, ↓e_cons, ↓e_grd, ↓egrd_tt, ↓egrd_ff, ↓egrd_tf, ↓egrd_ft, ↓egrd_s, ↓drwK, ↓r_drw2, ↓chk_nil, ↓chk_n, ↓chk_g, agL, agV_tt, agV_ff, agV_tf, agV_ft, agV_s, agE, accW_t, accW_f, isW, ↓i_grd, ↓grd_tt, ↓grd_ff, ↓grd_tf, ↓grd_ft, ↓grd_s, ↓itemK, ↓o_p, ↓o_l, ↓o_a, ↓o_w, ↓o_call, ↓o_callv, ↓callvK_f, ↓callvK_y, ↓r_range, ↓rangeV_f, ↓putF_get, ↓putF_none, ↓evF_t, ↓evF_c, ↓evF_f, new_nx, set_nx, new_get, set_get, optV_some, optW_some, optA_some, finK_some, ↓wpI_nil, ↓wpR_skip, ↓wpR_exit, ↓wpR_ret, getD_zero, getD_succ, b_add, b_sub, b_mul, b_quo, b_rem, b_eql, b_neq, b_lss, b_leq, b_gtr, b_geq, u_not, w_i64, w_u64, w_u8, t_div, t_mod, pop, lop, aop, wop, resL, resV, tupleV, akV, isVal, isCell, Value.cells, List.map_cons, List.map_nil, Bool.not_true, Bool.not_false, Option.map_some, ↓reduceIte, Nat.reduceEqDiff, Nat.reduceAdd, Int.reduceOfNat, Int.reduceNegSucc, decide_true, decide_false, reduceCtorEq, List.getElem?_cons_zero, List.getElem?_cons_succ, List.length_cons, List.length_nil, setc_0, setc_s, srcR_c, src_n, src_v, src_r, src_s, bnd, lenV, capV, Option.isSome_none, Option.isNone_none, Option.isSome_some, Option.isNone_some, Bool.or_false, Bool.or_true, Bool.true_or, Bool.false_or, List.take_succ_cons, List.take_zero, List.drop_succ_cons, List.drop_zero, List.cons_append, List.nil_append, List.append_nil, List.take_nil, List.drop_nil, List.all_cons, List.all_nil, Bool.and_true, Bool.true_and, List.size_toArray, List.getElem?_toArray, List.toList_toArray, bldV, Nat.reduceLeDiff, Nat.le_refl, u_neg, b_or0, Int.reduceMul, Int.reduceAdd, Int.reduceSub, Int.zero_mul, Int.zero_add, Int.add_zero, b_and3, b_and8, b_and24, b_shr2, b_shrs2, b_shr8, b_shr32, b_shr56, b_shl2, b_shl8, b_shl32, toNat_add1, toNat_add2, toNat_addn, toNat_add2n, Int.reduceToNat, maxLen_eq, zeros_one, zeros_two, zeros_three, take_mapl, List.length_map, List.map_append, List.length_append, beq_self_eq_true, beq_true, beq_false, Bool.false_xor, Bool.true_xor, Bool.xor_false, Bool.xor_true, dec_t, dec_f, ↓w_app, appS_some, appV_n, appV_v, appV_r, appR_c, appH_t, appH_f, Kd.isEx, Bool.false_and, partV, if_pos, if_neg, Nat.mul_one, Nat.one_mul, Nat.zero_add, Nat.add_zero, Int.toNat_natCast, true_and, and_true, f15, hag2, hag, hpK, hpmK, hrow, hro, hga, size_iff, hm3, hand, hg1, handn, ↓hs1, ↓hs2, fnW_len, hsl1, hsl2, hok, ↓w_cpyV, hcp]) | (with_reducible first | refine condK_dec (fun _ => ?_) fun _ => ?_ | refine grd_dec (fun _ => ?_) fun _ => ?_ | refine egrd_dec (fun _ => ?_) fun _ => ?_))
      refine ⟨_, by omega, k + 1, a + s, _, rfl, hkl, hnx', by rw [Int.natCast_add], hnK, fun x hx => ?_, rfl, hQ2⟩
      rw [if_neg hx]; exact hoK x hx
  case neg =>
  have hke : k = ls.length := by omega
  subst hke
  have hat : a = tn := by rw [ha, List.getD_eq_getElem?_getD, List.getElem?_eq_none (Nat.le_refl _)]; rfl
  subst hat
  have htK := (hoK K3.nx (by omega)).trans hta
  have hPt := Pk_top (roots := roots) hF
  repeat' (first | (simp (disch := first | omega | (decide +kernel) | (repeat first | assumption | exact HExt.refl _ | refine HExt.set ?_ (by first | omega | (simp only [new_nx, set_nx]; omega)) _ | refine HExt.new ?_ _)) only [↓RD, RU, accW_t, accW_f, isW, ↓putF_get, ↓putF_none, ↓evF_t, ↓evF_c, ↓evF_f, new_nx, set_nx, new_get, set_get, getD_zero, getD_succ, u_not, pop, lop, aop, wop, resL, resV, tupleV, akV, isVal, isCell, Value.cells, ρ0, ρ1, ρ2, ρ3, ρ4, ↓reduceIte, Nat.reduceEqDiff, Nat.reduceAdd, Int.reduceOfNat, Int.reduceNegSucc, reduceCtorEq, ρ5, ρ6, ρ7, ρ8, srcR_c, src_n, src_v, src_s, bnd, lenV, capV, ρ9, ρ10, ρ11, ρ12, ρ13, ρ14, ρ15, ρ16, ρ17, ρ18, ρ19, ρ20, ρ21, ρ22, ρ23, ρ24, Kd.isRo, ρ25, ρ26, bldV, Nat.reduceLeDiff, Int.reduceMul, Int.reduceAdd, Int.reduceSub, Int.reduceToNat, maxLen_eq, zeros_one, appS_some, appV_n, appV_v, appH_t, appH_f, Kd.isEx, ρ27, partV, CH.set_set, lkV, lkR, isKey, mupV, nxtV, ρ28, ρ29, f15, hag2, hag, hpmK, htK]) | (with_reducible first | refine condK_dec (fun _ => ?_) fun _ => ?_ | refine grd_dec (fun _ => ?_) fun _ => ?_ | refine egrd_dec (fun _ => ?_) fun _ => ?_))
  refine loop_w (fun m fr K' => ∃ (j : Nat) (f' : Nat → Int), m = a - j ∧ j ≤ a ∧ fr 18 = .int .i64 (j : Int) ∧ K'.nx = Ka.nx ∧ (∀ x, x ≠ b → K'.ob x = Ka.ob x) ∧ K'.ob b = .cells (fnW ws.length f') 42 kd ∧ (Pk ws roots ls ls.length ≤ j ∧ ∀ i, i < j → f' i = colF ws roots ls i) ∧ ∀ i, a ≤ i → f' i = 0) (n := a - Pk ws roots ls ls.length)
    ⟨Pk ws roots ls ls.length, f, rfl, hPt, by (repeat' (first | (simp (disch := first | omega | (decide +kernel) | (repeat first | assumption | exact HExt.refl _ | refine HExt.set ?_ (by first | omega | (simp only [new_nx, set_nx]; omega)) _ | refine HExt.new ?_ _)) only [↓RD, RU, accW_t, accW_f, isW, ↓putF_get, ↓putF_none, ↓evF_t, ↓evF_c, ↓evF_f, new_nx, set_nx, new_get, set_get, getD_zero, getD_succ, u_not, pop, lop, aop, wop, resL, resV, tupleV, akV, isVal, isCell, Value.cells, ρ0, ρ1, ρ2, ρ3, ρ4, ↓reduceIte, Nat.reduceEqDiff, Nat.reduceAdd, Int.reduceOfNat, Int.reduceNegSucc, reduceCtorEq, ρ5, ρ6, ρ7, ρ8, srcR_c, src_n, src_v, src_s, bnd, lenV, capV, ρ9, ρ10, ρ11, ρ12, ρ13, ρ14, ρ15, ρ16, ρ17, ρ18, ρ19, ρ20, ρ21, ρ22, ρ23, ρ24, Kd.isRo, ρ25, ρ26, bldV, Nat.reduceLeDiff, Int.reduceMul, Int.reduceAdd, Int.reduceSub, Int.reduceToNat, maxLen_eq, zeros_one, appS_some, appV_n, appV_v, appH_t, appH_f, Kd.isEx, ρ27, partV, CH.set_set, lkV, lkR, isKey, mupV, nxtV, ρ28, ρ29]) | (with_reducible first | refine condK_dec (fun _ => ?_) fun _ => ?_ | refine grd_dec (fun _ => ?_) fun _ => ?_ | refine egrd_dec (fun _ => ?_) fun _ => ?_))); all_goals rfl, hnK, hoK, hrow, ⟨Nat.le_refl _, hQ.lo⟩, hQ.hi⟩ ?_
  rintro m fr3 K' ⟨j, f', rfl, hj, f18, hnK', hoK', hrow', ⟨hjP, hlo'⟩, hhi'⟩ hag3
  have hpK' := (hoK' K1.nx (by omega)).trans hpa
  have hpmK' := (hoK' pm h3).trans hpma
  have htK' := (hoK' K3.nx (by omega)).trans hta
  by_cases hja : j < a
  case pos =>
    have hs1 := fnW_set (n := ws.length) (f := f') (i := j) (x := 0) (by omega)
    repeat' (first | (simp (disch := first | omega | (decide +kernel) | (repeat first | assumption | exact HExt.refl _ | refine HExt.set ?_ (by first | omega | (simp only [new_nx, set_nx]; omega)) _ | refine HExt.new ?_ _)) only [↓r_seq, ↓r_block, ↓seqK_n, ↓seqK_r, ↓seqK_e, ↓blockK_n, ↓blockK_r, ↓blockK_e, ↓loopI_n, ↓loopI_r, ↓loopI_e, ↓funK_n, ↓funK_r, ↓r_reg, ↓r_drw, ↓r_cond, ↓condK_t, ↓condK_f, ↓i_cons, ↓eitemK, ↓e_nil, ↓e_cons, ↓e_grd, ↓egrd_tt, ↓egrd_ff, ↓egrd_tf, ↓egrd_ft, ↓egrd_s, ↓drwK, ↓r_drw2, ↓chk_nil, ↓chk_n, ↓chk_g, agL, agV_tt, agV_ff, agV_tf, agV_ft, agV_s, agE, accW_t, accW_f, isW, ↓i_grd, ↓grd_tt, ↓grd_ff, ↓grd_tf, ↓grd_ft, ↓grd_s, ↓itemK, ↓o_p, ↓o_l, ↓o_a, ↓o_w, ↓o_call, ↓o_callv, ↓callvK_f, ↓callvK_y, ↓r_range, ↓rangeV_f, ↓putF_get, ↓putF_none, ↓evF_t, ↓evF_c, ↓evF_f, new_nx, set_nx, new_get, set_get, optV_some, optW_some, optA_some, finK_some, ↓wpI_nil, ↓wpR_skip, ↓wpR_exit, ↓wpR_ret, getD_zero, getD_succ, b_add, b_sub, b_mul, b_quo, b_rem, b_eql, b_neq, b_lss, b_leq, b_gtr, b_geq, u_not, w_i64, w_u64, w_u8, t_div, t_mod, pop, lop, aop, wop, resL, resV, tupleV, akV, isVal, isCell, Value.cells, List.map_cons, List.map_nil, Bool.not_true, Bool.not_false, Option.map_some, ↓reduceIte, Nat.reduceEqDiff, Nat.reduceAdd, Int.reduceOfNat, Int.reduceNegSucc, decide_true, decide_false, reduceCtorEq, List.getElem?_cons_zero, List.getElem?_cons_succ, List.length_cons, List.length_nil, setc_0, setc_s, srcR_c, src_n, src_v, src_r, src_s, bnd, lenV, capV, Option.isSome_none, Option.isNone_none, Option.isSome_some, Option.isNone_some, Bool.or_false, Bool.or_true, Bool.true_or, Bool.false_or, List.take_succ_cons, List.take_zero, List.drop_succ_cons, List.drop_zero, List.cons_append, List.nil_append, List.append_nil, List.take_nil, List.drop_nil, List.all_cons, List.all_nil, Bool.and_true, Bool.true_and, List.size_toArray, List.getElem?_toArray, List.toList_toArray, bldV, Nat.reduceLeDiff, Nat.le_refl, u_neg, b_or0, Int.reduceMul, Int.reduceAdd, Int.reduceSub, Int.zero_mul, Int.zero_add, Int.add_zero, b_and3, b_and8, b_and24, b_shr2, b_shrs2, b_shr8, b_shr32, b_shr56, b_shl2, b_shl8, b_shl32, toNat_add1, toNat_add2, toNat_addn, toNat_add2n, Int.reduceToNat, maxLen_eq, zeros_one, zeros_two, zeros_three, take_mapl, List.length_map, List.map_append, List.length_append, beq_self_eq_true, beq_true, beq_false, Bool.false_xor, Bool.true_xor, Bool.xor_false, Bool.xor_true, dec_t, dec_f, ↓w_app, appS_some, appV_n, appV_v, appV_r, appR_c, appH_t, appH_f, Kd.isEx, Bool.false_and, partV, if_pos, if_neg, Nat.mul_one, Nat.one_mul, Nat.zero_add, Nat.add_zero, Int.toNat_natCast, true_and, and_true, f18, hag3, hag2, hag, hpK', hpmK', htK', hrow', hro, ↓hs1, fnW_len]) | (with_reducible first | refine condK_dec (fun _ => ?_) fun _ => ?_ | refine grd_dec (fun _ => ?_) fun _ => ?_ | refine egrd_dec (fun _ => ?_) fun _ => ?_))
    refine ⟨_, by omega, j + 1, _, rfl, by omega, rfl, hnK', fun x hx => ?_, rfl, ⟨by omega, fun i hi => ?_⟩, fun i hi => ?_⟩
    · first | exact hoK' x hx | (rw [if_neg hx]; exact hoK' x hx)
    · unfold upF
      by_cases e : i = j
      · rw [if_pos e, e, colF_hi hjP]
      · rw [if_neg e]; exact hlo' i (by omega)
    · unfold upF
      rw [if_neg (by omega)]; exact hhi' i hi
  case neg =>
  have hje : j = a := by omega
  subst hje
  have hfin : fnW ws.length f' = fnW ws.length (colF ws roots ls) := fnW_ext fun i hi => by
    by_cases h : i < j
    · exact hlo' i h
    · rw [hhi' i (by omega), colF_hi (by omega)]
  rw [hfin] at hrow'
  repeat' (first | (simp (disch := first | omega | (decide +kernel) | (repeat first | assumption | exact HExt.refl _ | refine HExt.set ?_ (by first | omega | (simp only [new_nx, set_nx]; omega)) _ | refine HExt.new ?_ _)) only [↓RD, RU, accW_t, accW_f, isW, ↓putF_get, ↓putF_none, ↓evF_t, ↓evF_c, ↓evF_f, new_nx, set_nx, new_get, set_get, getD_zero, getD_succ, u_not, pop, lop, aop, wop, resL, resV, tupleV, akV, isVal, isCell, Value.cells, ρ0, ρ1, ρ2, ρ3, ρ4, ↓reduceIte, Nat.reduceEqDiff, Nat.reduceAdd, Int.reduceOfNat, Int.reduceNegSucc, reduceCtorEq, ρ5, ρ6, ρ7, ρ8, srcR_c, src_n, src_v, src_s, bnd, lenV, capV, ρ9, ρ10, ρ11, ρ12, ρ13, ρ14, ρ15, ρ16, ρ17, ρ18, ρ19, ρ20, ρ21, ρ22, ρ23, ρ24, Kd.isRo, ρ25, ρ26, bldV, Nat.reduceLeDiff, Int.reduceMul, Int.reduceAdd, Int.reduceSub, Int.reduceToNat, maxLen_eq, zeros_one, appS_some, appV_n, appV_v, appH_t, appH_f, Kd.isEx, ρ27, partV, CH.set_set, lkV, lkR, isKey, mupV, nxtV, ρ28, ρ29, f18, hag3, hag2, hag, hpmK', htK', f10]) | (with_reducible first | refine condK_dec (fun _ => ?_) fun _ => ?_ | refine grd_dec (fun _ => ?_) fun _ => ?_ | refine egrd_dec (fun _ => ?_) fun _ => ?_))
  refine ⟨by show H.nx ≤ K'.nx; omega, fun x hx hxb hxp => ?_, .inr ⟨hrt0, ls, v, hf, rfl, ?_, ?_, ?_⟩⟩
  · rw [set_get, if_neg hxp, hoK' x hxb]; exact hqa x hx hxb
  · rcases hGa with g | ⟨bb, kk, e, g1, g2, g3, g4⟩
    · exact .inl g
    · exact .inr ⟨bb, kk, e, g1, by show bb < K'.nx; omega, by rw [set_get, if_neg (by omega), hoK' _ (by omega)]; exact g3, g4⟩
  · rw [set_get, if_neg h3.symm]; exact hrow'
  · rw [set_get, if_pos rfl]
end Can
end Go.Proofs.Ytopmheekeooodaa
