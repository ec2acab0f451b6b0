/- Slide: mark. -/
import Derived.Test.YtopmheekeooodaaSlPush
namespace Go.Proofs.Ytopmheekeooodaa
namespace Can
open Go Go.RowKit
set_option linter.unusedSimpArgs false
set_option linter.unusedVariables false
set_option maxRecDepth 4000
theorem fields_wp (H : CH) (p : Option Addr) (n c : Nat) (a : Int) : WpF (tblG Try.prog LG GG) 21 [.slice p n c, .int .i64 a] H fun u K => u = .func (.func 28) #[] #[.pointer (some ⟨H.nx, 0, none⟩), .pointer (some ⟨H.nx + 1, 0, none⟩)] ∧ K = (H.new (.cells [.slice p n c] 22 .ex)).new (.cells [.int .i64 a] 3 .ex) := by
  refine wpF_rG (by rfl) (by kernel_rfl) ?_; (conv in (rF _ _).body => reduce); (conv in (rF _ _).res => reduce)
  repeat' (first | (simp (disch := first | omega | (decide +kernel) | (repeat first | assumption | exact HExt.refl _ | refine HExt.set ?_ (by first | omega | (simp only [new_nx, set_nx]; omega)) _ | refine HExt.new ?_ _)) only [↓RD, RU, accW_t, accW_f, isW, ↓putF_get, ↓putF_none, ↓evF_t, ↓evF_c, ↓evF_f, new_nx, set_nx, new_get, set_get, getD_zero, getD_succ, u_not, pop, lop, aop, wop, resL, resV, tupleV, akV, isVal, isCell, Value.cells, ρ0, ρ1, ρ2, ρ3, ρ4, ↓reduceIte, Nat.reduceEqDiff, Nat.reduceAdd, Int.reduceOfNat, Int.reduceNegSucc, reduceCtorEq, ρ5, ρ6, ρ7, ρ8, srcR_c, src_n, src_v, src_s, bnd, lenV, capV, ρ9, ρ10, ρ11, ρ12, ρ13, ρ14, ρ15, ρ16, ρ17, ρ18, ρ19, ρ20, ρ21, ρ22, ρ23, ρ24, Kd.isRo, ρ25, ρ26, bldV, Nat.reduceLeDiff, Int.reduceMul, Int.reduceAdd, Int.reduceSub, Int.reduceToNat, maxLen_eq, zeros_one, appS_some, appV_n, appV_v, appH_t, appH_f, Kd.isEx, ρ27, partV, CH.set_set, lkV, lkR, isKey, mupV, nxtV, ρ28, ρ29]) | (with_reducible first | refine condK_dec (fun _ => ?_) fun _ => ?_ | refine grd_dec (fun _ => ?_) fun _ => ?_ | refine egrd_dec (fun _ => ?_) fun _ => ?_))
theorem fields_iff {H : CH} {p : Option Addr} {n c : Nat} {a : Int} {Q : Value → CH → Prop} : WpF (tblG Try.prog LG GG) 21 [.slice p n c, .int .i64 a] H Q ↔ Q (.func (.func 28) #[] #[.pointer (some ⟨H.nx, 0, none⟩), .pointer (some ⟨H.nx + 1, 0, none⟩)]) ((H.new (.cells [.slice p n c] 22 .ex)).new (.cells [.int .i64 a] 3 .ex)) := wpF_iff (fields_wp H p n c a)
theorem objects_wp2 (H : CH) (p : Option Addr) (n c : Nat) (a : Int) : WpF (tblG Try.prog LG GG) 17 [.slice p n c, .int .i64 a] H fun u K => u = .func (.func 27) #[] #[.pointer (some ⟨H.nx + 1, 0, none⟩), .pointer (some ⟨H.nx, 0, none⟩)] ∧ K = (H.new (.cells [.slice p n c] 22 .ex)).new (.cells [.int .i64 a] 3 .ex) := by
  refine wpF_rG (by rfl) (by kernel_rfl) ?_; (conv in (rF _ _).body => reduce); (conv in (rF _ _).res => reduce)
  repeat' (first | (simp (disch := first | omega | (decide +kernel) | (repeat first | assumption | exact HExt.refl _ | refine HExt.set ?_ (by first | omega | (simp only [new_nx, set_nx]; omega)) _ | refine HExt.new ?_ _)) only [↓RD, RU, accW_t, accW_f, isW, ↓putF_get, ↓putF_none, ↓evF_t, ↓evF_c, ↓evF_f, new_nx, set_nx, new_get, set_get, getD_zero, getD_succ, u_not, pop, lop, aop, wop, resL, resV, tupleV, akV, isVal, isCell, Value.cells, ρ0, ρ1, ρ2, ρ3, ρ4, ↓reduceIte, Nat.reduceEqDiff, Nat.reduceAdd, Int.reduceOfNat, Int.reduceNegSucc, reduceCtorEq, ρ5, ρ6, ρ7, ρ8, srcR_c, src_n, src_v, src_s, bnd, lenV, capV, ρ9, ρ10, ρ11, ρ12, ρ13, ρ14, ρ15, ρ16, ρ17, ρ18, ρ19, ρ20, ρ21, ρ22, ρ23, ρ24, Kd.isRo, ρ25, ρ26, bldV, Nat.reduceLeDiff, Int.reduceMul, Int.reduceAdd, Int.reduceSub, Int.reduceToNat, maxLen_eq, zeros_one, appS_some, appV_n, appV_v, appH_t, appH_f, Kd.isEx, ρ27, partV, CH.set_set, lkV, lkR, isKey, mupV, nxtV, ρ28, ρ29]) | (with_reducible first | refine condK_dec (fun _ => ?_) fun _ => ?_ | refine grd_dec (fun _ => ?_) fun _ => ?_ | refine egrd_dec (fun _ => ?_) fun _ => ?_))
theorem objects_iff {H : CH} {p : Option Addr} {n c : Nat} {a : Int} {Q : Value → CH → Prop} : WpF (tblG Try.prog LG GG) 17 [.slice p n c, .int .i64 a] H Q ↔ Q (.func (.func 27) #[] #[.pointer (some ⟨H.nx + 1, 0, none⟩), .pointer (some ⟨H.nx, 0, none⟩)]) ((H.new (.cells [.slice p n c] 22 .ex)).new (.cells [.int .i64 a] 3 .ex)) := wpF_iff (objects_wp2 H p n c a)
/-- A field's place is no head and none behind a head. -/
theorem fld_rest {ws : List Int} {tn : Nat} {ls : List Nat} (hF : Form ws tn ls) {a k : Nat} (ha : a ∈ ls) (hk : k < tgN ws a) : a + 2 + k < ws.length ∧ ∀ x ∈ ls, a + 2 + k ≠ x ∧ a + 2 + k ≠ x + 1 := by
  have h1 := isObj_sz (hF.ob a ha)
  have h2 := hF.top
  refine ⟨by omega, fun x hx => ?_⟩
  by_cases e : x = a
  · omega
  · have h3 := (hF.ch.mem x hx).2.1
    rcases hF.ch.sep hx ha e with h | h <;> omega
theorem MkM.mv {K K' : CH} {b pw ph n c : Nat} {kd : Kd} {f : Nat → Int} {h : Nat} (m : MkM K b pw ph n c kd f h) (h1 : K'.ob b = K.ob b) (h2 : K'.ob pw = K.ob pw) (h3 : K'.ob ph = K.ob ph) : MkM K' b pw ph n c kd f h :=
  ⟨h1.trans m.row, m.ro, h2.trans m.w, h3.trans m.hd, m.n1, m.n2, m.n3⟩
open Classical in
/-- The memory behind marking. -/
noncomputable def mkF (ws roots : List Int) (ls : List Nat) (i : Nat) : Int := wd ws i + (if i ∈ ls ∧ Rc ws roots i then mkB else 0)
theorem adI_root {ls : List Nat} {ws roots : List Int} {w : Int} (h0 : 0 ≤ w) (h1 : w < 18446744073709551616) (hk : kindF w ≠ 3) (hr : kindF w = 0 → adr w ∈ ls ∧ Rc ws roots (adr w)) : ∃ a : Nat, adI w = (a : Int) ∧ (a ≠ 0 → a ∈ ls ∧ Rc ws roots a) ∧ (kindF w = 0 → a ≠ 0 ∧ a = adr w) := by
  rw [adI_of h0 h1 hk]
  by_cases hz : kindF w = 0
  · rw [if_pos hz]
    have := kind0_pos hz
    exact ⟨adr w, rfl, fun _ => hr hz, fun _ => ⟨by omega, rfl⟩⟩
  · rw [if_neg hz]
    exact ⟨0, rfl, fun e => absurd rfl e, fun e => absurd e hz⟩
/-- The memory as marking goes: what it is beside the words. -/
def MkR (H K : CH) (b : Nat) : Prop := H.nx + 3 ≤ K.nx ∧ (∀ x, x < H.nx → x ≠ b → K.ob x = H.ob x) ∧ K.ob (H.nx + 2) = .cells [.func (.func 26) #[] #[.pointer (some ⟨H.nx, 0, none⟩), .pointer (some ⟨H.nx + 1, 0, none⟩)]] 54 .ex
theorem mark_round {H K : CH} {b n c l a k : Nat} {kd : Kd} {ws roots : List Int} {tn : Nat} {ls : List Nat} {f : Nat → Int} {S st : List Nat} {h : Nat} {ex : Nat → Nat → Prop} {fr : Fr} (hF : Form ws tn ls) (hn : n = ws.length) (hu : ∀ x ∈ ws, 0 ≤ x ∧ x < 18446744073709551616) (hM : MkM K b H.nx (H.nx + 1) n c kd f h) (m : MI ws roots ls f S st h ex) (hR : MkR H K b) (hb : b < H.nx)
    (hl : K.ob l = .loop .ready none fr (16, 0)) (hl1 : H.nx + 3 ≤ l) (hl2 : l < K.nx) (f2 : fr 2 = .pointer (some ⟨H.nx, 0, none⟩)) (f5 : fr 5 = .pointer (some ⟨H.nx + 2, 0, none⟩)) (ha : a ∈ ls) (haS : a ∈ S) (hk : k < tgN ws a) :
    WpY (tblG Try.prog LG GG) l [.int .i64 ((a : Int) + 2 + (k : Int))] K fun u K' => u = .bool true ∧ ∃ f' S' st' h', MkM K' b H.nx (H.nx + 1) n c kd f' h' ∧ MI ws roots ls f' S' st' h' ex ∧ (kindF (wd ws (a + 2 + k)) = 0 → adr (wd ws (a + 2 + k)) ∈ S') ∧ (∀ y ∈ S, y ∈ S') ∧
      2 * (ls.length - S'.length) + st'.length ≤ 2 * (ls.length - S.length) + st.length ∧ K'.nx = K.nx ∧ K'.ob l = .loop .ready none fr (16, 0) ∧ ∀ y, y ≠ b → y ≠ H.nx + 1 → K'.ob y = K.ob y := by
  have hw := hM.w
  have hr := hM.row
  have hp := hR.2.2
  have hfr := fld_rest hF ha hk
  have hlen := hF.len
  have hfw : f (a + 2 + k) = wd ws (a + 2 + k) := m.rest _ hfr.2
  have hg := fnW_get (n := n) (f := f) (i := a + 2 + k) (by omega)
  rw [hfw] at hg
  have hkk := hF.fld a ha k hk
  have hwk := wd_nonneg hu (a + 2 + k)
  obtain ⟨wv, hwv⟩ : ∃ wv, wd ws (a + 2 + k) = wv := ⟨_, rfl⟩
  rw [hwv] at hg hkk hwk ⊢
  obtain ⟨x, hx, hx1, hx2⟩ := adI_root (ls := ls) (ws := ws) (roots := roots) hwk.1 hwk.2 hkk.1 fun h0 => ⟨hkk.2 h0, by rw [← hwv]; exact .step (m.rc a haS) hk (by rw [hwv]; exact h0)⟩
  refine wpY_rG (by kernel_rfl) hl (by kernel_rfl) ?_; (conv in (rL _ _).1 => reduce); (conv in (rL _ _).2.1 => reduce); (conv in (rL _ _).2.2 => reduce); simp only [putPs, List.zip_cons_cons, List.zip_nil_right, List.zip_nil_left, List.foldl_cons, List.foldl_nil]
  repeat' (first | (simp (disch := first | omega | (decide +kernel) | (repeat first | assumption | exact HExt.refl _ | refine HExt.set ?_ (by first | omega | (simp only [new_nx, set_nx]; omega)) _ | refine HExt.new ?_ _)) only [↓RD, RU, accW_t, accW_f, isW, ↓putF_get, ↓putF_none, ↓evF_t, ↓evF_c, ↓evF_f, new_nx, set_nx, new_get, set_get, getD_zero, getD_succ, u_not, pop, lop, aop, wop, resL, resV, tupleV, akV, isVal, isCell, Value.cells, ρ0, ρ1, ρ2, ρ3, ρ4, ↓reduceIte, Nat.reduceEqDiff, Nat.reduceAdd, Int.reduceOfNat, Int.reduceNegSucc, reduceCtorEq, ρ5, ρ6, ρ7, ρ8, srcR_c, src_n, src_v, src_s, bnd, lenV, capV, ρ9, ρ10, ρ11, ρ12, ρ13, ρ14, ρ15, ρ16, ρ17, ρ18, ρ19, ρ20, ρ21, ρ22, ρ23, ρ24, Kd.isRo, ρ25, ρ26, bldV, Nat.reduceLeDiff, Int.reduceMul, Int.reduceAdd, Int.reduceSub, Int.reduceToNat, maxLen_eq, zeros_one, appS_some, appV_n, appV_v, appH_t, appH_f, Kd.isEx, ρ27, partV, CH.set_set, lkV, lkR, isKey, mupV, nxtV, ρ28, ρ29, f2, f5, roundK_some hl, hw, hr, hp, toNat_add2n, hg, address_iff]) | (with_reducible first | refine condK_dec (fun _ => ?_) fun _ => ?_ | refine grd_dec (fun _ => ?_) fun _ => ?_ | refine egrd_dec (fun _ => ?_) fun _ => ?_))
  have hM1 : MkM (K.set l (.loop .busy none fr (16, 0))) b H.nx (H.nx + 1) n c kd f h := hM.mv (by rw [set_get, if_neg (by omega)]) (by rw [set_get, if_neg (by omega)]) (by rw [set_get, if_neg (by omega)])
  refine (push_wp hF hn hM1 m hx hx1).mono fun v K' ⟨f', S', st', h', g1, g2, g3, g4, g5, g6, g7⟩ => ?_
  have hp' : K'.ob (H.nx + 2) = _ := (g7 _ (by omega) (by omega)).trans ((set_get.trans (if_neg (by omega))).trans hp)
  repeat' (first | (simp (disch := first | omega | (decide +kernel) | (repeat first | assumption | exact HExt.refl _ | refine HExt.set ?_ (by first | omega | (simp only [new_nx, set_nx]; omega)) _ | refine HExt.new ?_ _)) only [↓RD, RU, accW_t, accW_f, isW, ↓putF_get, ↓putF_none, ↓evF_t, ↓evF_c, ↓evF_f, new_nx, set_nx, new_get, set_get, getD_zero, getD_succ, u_not, pop, lop, aop, wop, resL, resV, tupleV, akV, isVal, isCell, Value.cells, ρ0, ρ1, ρ2, ρ3, ρ4, ↓reduceIte, Nat.reduceEqDiff, Nat.reduceAdd, Int.reduceOfNat, Int.reduceNegSucc, reduceCtorEq, ρ5, ρ6, ρ7, ρ8, srcR_c, src_n, src_v, src_s, bnd, lenV, capV, ρ9, ρ10, ρ11, ρ12, ρ13, ρ14, ρ15, ρ16, ρ17, ρ18, ρ19, ρ20, ρ21, ρ22, ρ23, ρ24, Kd.isRo, ρ25, ρ26, bldV, Nat.reduceLeDiff, Int.reduceMul, Int.reduceAdd, Int.reduceSub, Int.reduceToNat, maxLen_eq, zeros_one, appS_some, appV_n, appV_v, appH_t, appH_f, Kd.isEx, ρ27, partV, CH.set_set, lkV, lkR, isKey, mupV, nxtV, ρ28, ρ29, f2, f5, hp, hp']) | (with_reducible first | refine condK_dec (fun _ => ?_) fun _ => ?_ | refine grd_dec (fun _ => ?_) fun _ => ?_ | refine egrd_dec (fun _ => ?_) fun _ => ?_))
  have hK5 : K'.ob l = .loop .busy none fr (16, 0) := (g7 _ (by omega) (by omega)).trans (set_get.trans (if_pos rfl))
  refine (endK_n hK5).2 ?_
  refine ⟨rfl, f', S', st', h', g1.mv (by rw [set_get, if_neg (by omega)]) (by rw [set_get, if_neg (by omega)]) (by rw [set_get, if_neg (by omega)]), g2, fun h0 => ?_, g4, g5, g6, by rw [set_get, if_pos rfl], fun y h1 h2 => ?_⟩
  · obtain ⟨e1, e2⟩ := hx2 h0
    rw [← e2]; exact g3 e1
  · by_cases e : y = l
    · rw [e, set_get, if_pos rfl, hl]
    · rw [set_get, if_neg e, g7 y h1 h2, set_get, if_neg e]
theorem MkR.mv {H K K' : CH} {b : Nat} (h : MkR H K b) (hn : K.nx ≤ K'.nx) (hb : b < H.nx) (hk : ∀ y, y < K.nx → y ≠ b → y ≠ H.nx + 1 → K'.ob y = K.ob y) : MkR H K' b :=
  ⟨Nat.le_trans h.1 hn, fun x hx hxb => (hk x (by have := h.1; omega) hxb (by omega)).trans (h.2.1 x hx hxb), (hk _ (by have := h.1; omega) (by omega) (by omega)).trans h.2.2⟩
set_option maxHeartbeats 1000000 in
theorem mark_wp {H : CH} {b n c d : Nat} {q : Option Addr} {kd : Kd} {ws roots : List Int} {tn : Nat} {ls : List Nat} (hF : Form ws tn ls) (hn : n = ws.length) (hu : ∀ x ∈ ws, 0 ≤ x ∧ x < 18446744073709551616) (hr : RtOk ls roots) (hrs : SlAt 1 (CInt .u64) H q d roots) (hq : ∀ l o, q = some ⟨l, o, none⟩ → l ≠ b)
    (hb : b < H.nx) (hob : H.ob b = .cells (ws.map (.int .u64)) 42 kd) (hro : kd.isRo = false) :
    WpF (tblG Try.prog LG GG) 16 [.slice (some ⟨b, 0, none⟩) n c, .slice q roots.length d] H fun _ K => H.nx ≤ K.nx ∧ (∀ x, x < H.nx → x ≠ b → K.ob x = H.ob x) ∧ K.ob b = .cells (fnW n (mkF ws roots ls)) 42 kd := by
  rw [fnW_of, ← hn] at hob
  have hlen := hF.len
  have htop := hF.top
  refine wpF_rG (by rfl) (by kernel_rfl) ?_; (conv in (rF _ _).body => reduce); (conv in (rF _ _).res => reduce)
  repeat' (first | (simp (disch := first | omega | (decide +kernel) | (repeat first | assumption | exact HExt.refl _ | refine HExt.set ?_ (by first | omega | (simp only [new_nx, set_nx]; omega)) _ | refine HExt.new ?_ _)) only [↓RD, RU, accW_t, accW_f, isW, ↓putF_get, ↓putF_none, ↓evF_t, ↓evF_c, ↓evF_f, new_nx, set_nx, new_get, set_get, getD_zero, getD_succ, u_not, pop, lop, aop, wop, resL, resV, tupleV, akV, isVal, isCell, Value.cells, ρ0, ρ1, ρ2, ρ3, ρ4, ↓reduceIte, Nat.reduceEqDiff, Nat.reduceAdd, Int.reduceOfNat, Int.reduceNegSucc, reduceCtorEq, ρ5, ρ6, ρ7, ρ8, srcR_c, src_n, src_v, src_s, bnd, lenV, capV, ρ9, ρ10, ρ11, ρ12, ρ13, ρ14, ρ15, ρ16, ρ17, ρ18, ρ19, ρ20, ρ21, ρ22, ρ23, ρ24, Kd.isRo, ρ25, ρ26, bldV, Nat.reduceLeDiff, Int.reduceMul, Int.reduceAdd, Int.reduceSub, Int.reduceToNat, maxLen_eq, zeros_one, appS_some, appV_n, appV_v, appH_t, appH_f, Kd.isEx, ρ27, partV, CH.set_set, lkV, lkR, isKey, mupV, nxtV, ρ28, ρ29]) | (with_reducible first | refine condK_dec (fun _ => ?_) fun _ => ?_ | refine grd_dec (fun _ => ?_) fun _ => ?_ | refine egrd_dec (fun _ => ?_) fun _ => ?_))
  refine loop_w (fun m fr K => ∃ (i : Nat) (f : Nat → Int) (S st : List Nat) (h : Nat), m = roots.length - i ∧ i ≤ roots.length ∧ fr 13 = .int .i64 (i : Int) ∧ MkM K b H.nx (H.nx + 1) n c kd f h ∧ MI ws roots ls f S st h (fun _ _ => False) ∧ MkR H K b ∧ ∀ j w, j < i → roots[j]? = some w → kindF w = 0 → adr w ∈ S) (n := roots.length)
    ⟨0, wd ws, [], [], 0, rfl, Nat.zero_le _, by (repeat' (first | (simp (disch := first | omega | (decide +kernel) | (repeat first | assumption | exact HExt.refl _ | refine HExt.set ?_ (by first | omega | (simp only [new_nx, set_nx]; omega)) _ | refine HExt.new ?_ _)) only [↓RD, RU, accW_t, accW_f, isW, ↓putF_get, ↓putF_none, ↓evF_t, ↓evF_c, ↓evF_f, new_nx, set_nx, new_get, set_get, getD_zero, getD_succ, u_not, pop, lop, aop, wop, resL, resV, tupleV, akV, isVal, isCell, Value.cells, ρ0, ρ1, ρ2, ρ3, ρ4, ↓reduceIte, Nat.reduceEqDiff, Nat.reduceAdd, Int.reduceOfNat, Int.reduceNegSucc, reduceCtorEq, ρ5, ρ6, ρ7, ρ8, srcR_c, src_n, src_v, src_s, bnd, lenV, capV, ρ9, ρ10, ρ11, ρ12, ρ13, ρ14, ρ15, ρ16, ρ17, ρ18, ρ19, ρ20, ρ21, ρ22, ρ23, ρ24, Kd.isRo, ρ25, ρ26, bldV, Nat.reduceLeDiff, Int.reduceMul, Int.reduceAdd, Int.reduceSub, Int.reduceToNat, maxLen_eq, zeros_one, appS_some, appV_n, appV_v, appH_t, appH_f, Kd.isEx, ρ27, partV, CH.set_set, lkV, lkR, isKey, mupV, nxtV, ρ28, ρ29]) | (with_reducible first | refine condK_dec (fun _ => ?_) fun _ => ?_ | refine grd_dec (fun _ => ?_) fun _ => ?_ | refine egrd_dec (fun _ => ?_) fun _ => ?_))); all_goals rfl, ⟨by simp only [set_get, new_get]; rw [if_neg (by omega), if_neg (by first | omega | (simp only [new_nx, set_nx]; omega)), if_neg (by omega), if_neg (by first | omega | (simp only [new_nx, set_nx]; omega)), if_neg (by omega)]; exact hob, hro, by repeat' (first | (simp (disch := first | omega | (decide +kernel) | (repeat first | assumption | exact HExt.refl _ | refine HExt.set ?_ (by first | omega | (simp only [new_nx, set_nx]; omega)) _ | refine HExt.new ?_ _)) only [↓RD, RU, accW_t, accW_f, isW, ↓putF_get, ↓putF_none, ↓evF_t, ↓evF_c, ↓evF_f, new_nx, set_nx, new_get, set_get, getD_zero, getD_succ, u_not, pop, lop, aop, wop, resL, resV, tupleV, akV, isVal, isCell, Value.cells, ρ0, ρ1, ρ2, ρ3, ρ4, ↓reduceIte, Nat.reduceEqDiff, Nat.reduceAdd, Int.reduceOfNat, Int.reduceNegSucc, reduceCtorEq, ρ5, ρ6, ρ7, ρ8, srcR_c, src_n, src_v, src_s, bnd, lenV, capV, ρ9, ρ10, ρ11, ρ12, ρ13, ρ14, ρ15, ρ16, ρ17, ρ18, ρ19, ρ20, ρ21, ρ22, ρ23, ρ24, Kd.isRo, ρ25, ρ26, bldV, Nat.reduceLeDiff, Int.reduceMul, Int.reduceAdd, Int.reduceSub, Int.reduceToNat, maxLen_eq, zeros_one, appS_some, appV_n, appV_v, appH_t, appH_f, Kd.isEx, ρ27, partV, CH.set_set, lkV, lkR, isKey, mupV, nxtV, ρ28, ρ29]) | (with_reducible first | refine condK_dec (fun _ => ?_) fun _ => ?_ | refine grd_dec (fun _ => ?_) fun _ => ?_ | refine egrd_dec (fun _ => ?_) fun _ => ?_)), by repeat' (first | (simp (disch := first | omega | (decide +kernel) | (repeat first | assumption | exact HExt.refl _ | refine HExt.set ?_ (by first | omega | (simp only [new_nx, set_nx]; omega)) _ | refine HExt.new ?_ _)) only [↓RD, RU, accW_t, accW_f, isW, ↓putF_get, ↓putF_none, ↓evF_t, ↓evF_c, ↓evF_f, new_nx, set_nx, new_get, set_get, getD_zero, getD_succ, u_not, pop, lop, aop, wop, resL, resV, tupleV, akV, isVal, isCell, Value.cells, ρ0, ρ1, ρ2, ρ3, ρ4, ↓reduceIte, Nat.reduceEqDiff, Nat.reduceAdd, Int.reduceOfNat, Int.reduceNegSucc, reduceCtorEq, ρ5, ρ6, ρ7, ρ8, srcR_c, src_n, src_v, src_s, bnd, lenV, capV, ρ9, ρ10, ρ11, ρ12, ρ13, ρ14, ρ15, ρ16, ρ17, ρ18, ρ19, ρ20, ρ21, ρ22, ρ23, ρ24, Kd.isRo, ρ25, ρ26, bldV, Nat.reduceLeDiff, Int.reduceMul, Int.reduceAdd, Int.reduceSub, Int.reduceToNat, maxLen_eq, zeros_one, appS_some, appV_n, appV_v, appH_t, appH_f, Kd.isEx, ρ27, partV, CH.set_set, lkV, lkR, isKey, mupV, nxtV, ρ28, ρ29]) | (with_reducible first | refine condK_dec (fun _ => ?_) fun _ => ?_ | refine grd_dec (fun _ => ?_) fun _ => ?_ | refine egrd_dec (fun _ => ?_) fun _ => ?_)); rfl, by omega, by omega, by omega⟩, MI.start hF, ⟨by simp only [new_nx, set_nx]; omega, fun x hx hxb => by simp only [set_get, new_get]; rw [if_neg (by omega), if_neg (by first | omega | (simp only [new_nx, set_nx]; omega)), if_neg (by omega), if_neg (by first | omega | (simp only [new_nx, set_nx]; omega)), if_neg (by omega)], by repeat' (first | (simp (disch := first | omega | (decide +kernel) | (repeat first | assumption | exact HExt.refl _ | refine HExt.set ?_ (by first | omega | (simp only [new_nx, set_nx]; omega)) _ | refine HExt.new ?_ _)) only [↓RD, RU, accW_t, accW_f, isW, ↓putF_get, ↓putF_none, ↓evF_t, ↓evF_c, ↓evF_f, new_nx, set_nx, new_get, set_get, getD_zero, getD_succ, u_not, pop, lop, aop, wop, resL, resV, tupleV, akV, isVal, isCell, Value.cells, ρ0, ρ1, ρ2, ρ3, ρ4, ↓reduceIte, Nat.reduceEqDiff, Nat.reduceAdd, Int.reduceOfNat, Int.reduceNegSucc, reduceCtorEq, ρ5, ρ6, ρ7, ρ8, srcR_c, src_n, src_v, src_s, bnd, lenV, capV, ρ9, ρ10, ρ11, ρ12, ρ13, ρ14, ρ15, ρ16, ρ17, ρ18, ρ19, ρ20, ρ21, ρ22, ρ23, ρ24, Kd.isRo, ρ25, ρ26, bldV, Nat.reduceLeDiff, Int.reduceMul, Int.reduceAdd, Int.reduceSub, Int.reduceToNat, maxLen_eq, zeros_one, appS_some, appV_n, appV_v, appH_t, appH_f, Kd.isEx, ρ27, partV, CH.set_set, lkV, lkR, isKey, mupV, nxtV, ρ28, ρ29]) | (with_reducible first | refine condK_dec (fun _ => ?_) fun _ => ?_ | refine grd_dec (fun _ => ?_) fun _ => ?_ | refine egrd_dec (fun _ => ?_) fun _ => ?_))⟩, fun j w hj => absurd hj (Nat.not_lt_zero _)⟩ ?_
  rintro m fr K ⟨i, f, S, st, h, rfl, hi, f13, hM, mi, hR, hrt⟩ hag
  by_cases hil : i < roots.length
  case pos =>
    obtain ⟨l, o, os, e, kq, rfl, hl1, hc, hm, hobq, hol, hos, hwf⟩ := hrs.ints (by omega)
    have hgi := hos i hil
    have hwi := u64_wf (hwf i hil)
    rw [maxLen_eq] at hm
    have hlb : l ≠ b := hq l o rfl
    have hobK : K.ob l = .cells os e kq := (hR.2.1 l hl1 hlb).trans hobq
    obtain ⟨w, hw⟩ : ∃ w, roots.getD i 0 = w := ⟨_, rfl⟩
    have hrw : roots[i]? = some w := by rw [← hw, List.getD_eq_getElem?_getD, List.getElem?_eq_getElem hil]; rfl
    rw [hw] at hgi hwi
    have hwm : w ∈ roots := List.mem_of_getElem? hrw
    have hkw := hr w hwm
    obtain ⟨x, hx, hx1, hx2⟩ := adI_root (ls := ls) (ws := ws) (roots := roots) hwi.1 hwi.2 hkw.1 fun h0 => ⟨hkw.2 h0, .root hwm h0⟩
    have hp := hR.2.2
    repeat' (first | (simp (disch := first | omega | (decide +kernel) | (repeat first | assumption | exact HExt.refl _ | refine HExt.set ?_ (by first | omega | (simp only [new_nx, set_nx]; omega)) _ | refine HExt.new ?_ _)) only [↓RD, RU, accW_t, accW_f, isW, ↓putF_get, ↓putF_none, ↓evF_t, ↓evF_c, ↓evF_f, new_nx, set_nx, new_get, set_get, getD_zero, getD_succ, u_not, pop, lop, aop, wop, resL, resV, tupleV, akV, isVal, isCell, Value.cells, ρ0, ρ1, ρ2, ρ3, ρ4, ↓reduceIte, Nat.reduceEqDiff, Nat.reduceAdd, Int.reduceOfNat, Int.reduceNegSucc, reduceCtorEq, ρ5, ρ6, ρ7, ρ8, srcR_c, src_n, src_v, src_s, bnd, lenV, capV, ρ9, ρ10, ρ11, ρ12, ρ13, ρ14, ρ15, ρ16, ρ17, ρ18, ρ19, ρ20, ρ21, ρ22, ρ23, ρ24, Kd.isRo, ρ25, ρ26, bldV, Nat.reduceLeDiff, Int.reduceMul, Int.reduceAdd, Int.reduceSub, Int.reduceToNat, maxLen_eq, zeros_one, appS_some, appV_n, appV_v, appH_t, appH_f, Kd.isEx, ρ27, partV, CH.set_set, lkV, lkR, isKey, mupV, nxtV, ρ28, ρ29, f13, hag, hobK, hgi, address_iff, hp]) | (with_reducible first | refine condK_dec (fun _ => ?_) fun _ => ?_ | refine grd_dec (fun _ => ?_) fun _ => ?_ | refine egrd_dec (fun _ => ?_) fun _ => ?_))
    refine (push_wp hF hn hM mi hx hx1).mono fun v K' ⟨f', S', st', h', g1, g2, g3, g4, g5, g6, g7⟩ => ?_
    have hp' : K'.ob (H.nx + 2) = _ := (g7 _ (by omega) (by omega)).trans hp
    repeat' (first | (simp (disch := first | omega | (decide +kernel) | (repeat first | assumption | exact HExt.refl _ | refine HExt.set ?_ (by first | omega | (simp only [new_nx, set_nx]; omega)) _ | refine HExt.new ?_ _)) only [↓RD, RU, accW_t, accW_f, isW, ↓putF_get, ↓putF_none, ↓evF_t, ↓evF_c, ↓evF_f, new_nx, set_nx, new_get, set_get, getD_zero, getD_succ, u_not, pop, lop, aop, wop, resL, resV, tupleV, akV, isVal, isCell, Value.cells, ρ0, ρ1, ρ2, ρ3, ρ4, ↓reduceIte, Nat.reduceEqDiff, Nat.reduceAdd, Int.reduceOfNat, Int.reduceNegSucc, reduceCtorEq, ρ5, ρ6, ρ7, ρ8, srcR_c, src_n, src_v, src_s, bnd, lenV, capV, ρ9, ρ10, ρ11, ρ12, ρ13, ρ14, ρ15, ρ16, ρ17, ρ18, ρ19, ρ20, ρ21, ρ22, ρ23, ρ24, Kd.isRo, ρ25, ρ26, bldV, Nat.reduceLeDiff, Int.reduceMul, Int.reduceAdd, Int.reduceSub, Int.reduceToNat, maxLen_eq, zeros_one, appS_some, appV_n, appV_v, appH_t, appH_f, Kd.isEx, ρ27, partV, CH.set_set, lkV, lkR, isKey, mupV, nxtV, ρ28, ρ29, f13, hag, hp, hp']) | (with_reducible first | refine condK_dec (fun _ => ?_) fun _ => ?_ | refine grd_dec (fun _ => ?_) fun _ => ?_ | refine egrd_dec (fun _ => ?_) fun _ => ?_))
    refine ⟨_, by omega, i + 1, f', S', st', h', rfl, by omega, rfl, g1, g2, hR.mv (by omega) hb fun y _ h1 h2 => g7 y h1 h2, fun j w' hj hjw h0 => ?_⟩
    by_cases e : j = i
    · subst e
      rw [hrw] at hjw
      cases hjw
      obtain ⟨e1, e2⟩ := hx2 h0
      rw [← e2]; exact g3 e1
    · exact g4 _ (hrt j w' (by omega) hjw h0)
  case neg =>
  have hin : i = roots.length := by omega
  subst hin
  repeat' (first | (simp (disch := first | omega | (decide +kernel) | (repeat first | assumption | exact HExt.refl _ | refine HExt.set ?_ (by first | omega | (simp only [new_nx, set_nx]; omega)) _ | refine HExt.new ?_ _)) only [↓RD, RU, accW_t, accW_f, isW, ↓putF_get, ↓putF_none, ↓evF_t, ↓evF_c, ↓evF_f, new_nx, set_nx, new_get, set_get, getD_zero, getD_succ, u_not, pop, lop, aop, wop, resL, resV, tupleV, akV, isVal, isCell, Value.cells, ρ0, ρ1, ρ2, ρ3, ρ4, ↓reduceIte, Nat.reduceEqDiff, Nat.reduceAdd, Int.reduceOfNat, Int.reduceNegSucc, reduceCtorEq, ρ5, ρ6, ρ7, ρ8, srcR_c, src_n, src_v, src_s, bnd, lenV, capV, ρ9, ρ10, ρ11, ρ12, ρ13, ρ14, ρ15, ρ16, ρ17, ρ18, ρ19, ρ20, ρ21, ρ22, ρ23, ρ24, Kd.isRo, ρ25, ρ26, bldV, Nat.reduceLeDiff, Int.reduceMul, Int.reduceAdd, Int.reduceSub, Int.reduceToNat, maxLen_eq, zeros_one, appS_some, appV_n, appV_v, appH_t, appH_f, Kd.isEx, ρ27, partV, CH.set_set, lkV, lkR, isKey, mupV, nxtV, ρ28, ρ29, f13, hag]) | (with_reducible first | refine condK_dec (fun _ => ?_) fun _ => ?_ | refine grd_dec (fun _ => ?_) fun _ => ?_ | refine egrd_dec (fun _ => ?_) fun _ => ?_))
  refine loop_w (fun m fr K => ∃ (f : Nat → Int) (S st : List Nat) (h : Nat), m = 2 * (ls.length - S.length) + st.length ∧ MkM K b H.nx (H.nx + 1) n c kd f h ∧ MI ws roots ls f S st h (fun _ _ => False) ∧ MkR H K b ∧ ∀ w, w ∈ roots → kindF w = 0 → adr w ∈ S) (n := 2 * (ls.length - S.length) + st.length)
    ⟨f, S, st, h, rfl, hM, mi, hR, fun w hw h0 => by
      obtain ⟨j, hj, rfl⟩ := List.getElem_of_mem hw
      exact hrt j _ hj (List.getElem?_eq_getElem hj) h0⟩ ?_
  clear hM mi hR hrt f13 f S st h
  rintro m fr2 K ⟨f, S, st, h, rfl, hM, mi, hR, hrt⟩ hag2
  have hw := hM.w
  have hh := hM.hd
  have hrow := hM.row
  have hp := hR.2.2
  have hhd := mi.link.head fun s hs => (obj_lt2 hF (mi.inL _ (mi.sub _ hs))).1
  by_cases h0 : h = 0
  case pos =>
    have hst := hhd.1 h0
    subst h0 hst
    repeat' (first | (simp (disch := first | omega | (decide +kernel) | (repeat first | assumption | exact HExt.refl _ | refine HExt.set ?_ (by first | omega | (simp only [new_nx, set_nx]; omega)) _ | refine HExt.new ?_ _)) only [↓RD, RU, accW_t, accW_f, isW, ↓putF_get, ↓putF_none, ↓evF_t, ↓evF_c, ↓evF_f, new_nx, set_nx, new_get, set_get, getD_zero, getD_succ, u_not, pop, lop, aop, wop, resL, resV, tupleV, akV, isVal, isCell, Value.cells, ρ0, ρ1, ρ2, ρ3, ρ4, ↓reduceIte, Nat.reduceEqDiff, Nat.reduceAdd, Int.reduceOfNat, Int.reduceNegSucc, reduceCtorEq, ρ5, ρ6, ρ7, ρ8, srcR_c, src_n, src_v, src_s, bnd, lenV, capV, ρ9, ρ10, ρ11, ρ12, ρ13, ρ14, ρ15, ρ16, ρ17, ρ18, ρ19, ρ20, ρ21, ρ22, ρ23, ρ24, Kd.isRo, ρ25, ρ26, bldV, Nat.reduceLeDiff, Int.reduceMul, Int.reduceAdd, Int.reduceSub, Int.reduceToNat, maxLen_eq, zeros_one, appS_some, appV_n, appV_v, appH_t, appH_f, Kd.isEx, ρ27, partV, CH.set_set, lkV, lkR, isKey, mupV, nxtV, ρ28, ρ29, hag2, hag, hh]) | (with_reducible first | refine condK_dec (fun _ => ?_) fun _ => ?_ | refine grd_dec (fun _ => ?_) fun _ => ?_ | refine egrd_dec (fun _ => ?_) fun _ => ?_))
    refine ⟨by have := hR.1; omega, hR.2.1, ?_⟩
    rw [hrow]
    congr 1
    apply fnW_ext
    intro i hi
    have hdone := mi.done hrt
    unfold mkF
    by_cases hil : i ∈ ls
    · rw [mi.hd i hil]
      by_cases hS : i ∈ S
      · rw [if_pos hS, if_pos ⟨hil, (hdone i).1 hS⟩]
      · rw [if_neg hS, if_neg (fun h => hS ((hdone i).2 h.2))]
    · rw [if_neg (fun h => hil h.1), Int.add_zero]
      by_cases hx : ∃ a ∈ ls, i = a + 1
      · obtain ⟨a, ha, rfl⟩ := hx
        rw [mi.lk0 a ha (by simp), (isObj_sz (hF.ob a ha)).2.2.2.1]
      · exact mi.rest i fun a ha => ⟨fun e => hil (e ▸ ha), fun e => hx ⟨a, ha, e⟩⟩
  obtain ⟨a, st', rfl⟩ : ∃ a st', st = a :: st' := by
    match st, hhd with
    | [], hhd => exact absurd (hhd.2 rfl) h0
    | a :: r, _ => exact ⟨a, r, rfl⟩
  have hha : h = a := by
    have hl := mi.link
    cases st' <;> exact hl.1
  subst hha
  have haS := mi.sub h (List.mem_cons_self ..)
  have haL := mi.inL h haS
  have hbd := obj_lt2 hF haL
  obtain ⟨hp1, hp2, hp3⟩ := mi.pop hF
  have hg1 := fnW_get (n := n) (f := f) (i := h + 1) (by omega)
  have hs1 := fnW_set (n := n) (f := f) (i := h + 1) (x := 0) (by omega)
  have hhead : st' ≠ [] → st'.headD 0 < 1048576 := fun hne => by
    match st', hne with
    | t :: r, _ => exact (obj_lt2 hF (mi.inL _ (mi.sub t (by simp)))).2.2
  -- the memory behind the head's being taken
  have main : ∀ K1 : CH, K1.nx = K.nx → MkM K1 b H.nx (H.nx + 1) n c kd (upF f (h + 1) 0) (st'.headD 0) → (∀ y, y ≠ b → y ≠ H.nx + 1 → K1.ob y = K.ob y) → ∀ fr3 : Fr, fr3 2 = .pointer (some ⟨H.nx, 0, none⟩) → fr3 5 = .pointer (some ⟨H.nx + 2, 0, none⟩) →
      WpF (tblG Try.prog LG GG) 28 [.func (.yield (K1.nx + 2)) #[] #[], .pointer (some ⟨K1.nx, 0, none⟩), .pointer (some ⟨K1.nx + 1, 0, none⟩)] (((K1.new (.cells [.slice (some ⟨b, 0, none⟩) n c] 22 .ex)).new (.cells [.int .i64 (h : Int)] 3 .ex)).new (.loop .ready none fr3 (16, 0))) fun _ K' =>
        ∃ f' S' st'' h', MkM K' b H.nx (H.nx + 1) n c kd f' h' ∧ MI ws roots ls f' S' st'' h' (fun _ _ => False) ∧ (∀ y ∈ S, y ∈ S') ∧ 2 * (ls.length - S'.length) + st''.length ≤ 2 * (ls.length - S.length) + st'.length ∧ K'.nx = K1.nx + 3 ∧ K'.ob (K1.nx + 2) = .loop .ready none fr3 (16, 0) ∧ ∀ y, y < K1.nx → y ≠ b → y ≠ H.nx + 1 → K'.ob y = K.ob y := by
    intro K1 hn1 hM1 hk1 fr3 e2 e5
    have hRn := hR.1
    obtain ⟨K2, hK2⟩ : ∃ K2, K2 = ((K1.new (.cells [.slice (some ⟨b, 0, none⟩) n c] 22 .ex)).new (.cells [.int .i64 (h : Int)] 3 .ex)).new (.loop .ready none fr3 (16, 0)) := ⟨_, rfl⟩
    have hold : ∀ y, y < K1.nx → K2.ob y = K1.ob y := fun y hy => by rw [hK2, new_get, if_neg (by first | omega | (simp only [new_nx, set_nx]; omega)), new_get, if_neg (by first | omega | (simp only [new_nx, set_nx]; omega)), new_get, if_neg (by omega)]
    have hnx2 : K2.nx = K1.nx + 3 := by rw [hK2]; rfl
    have hlp : K2.ob (K1.nx + 2) = .loop .ready none fr3 (16, 0) := by rw [hK2]; exact new_get.trans (if_pos rfl)
    have hpa : K2.ob (K1.nx + 1) = .cells [.int .i64 (h : Int)] 3 .ex := by rw [hK2, new_get, if_neg (by first | omega | (simp only [new_nx, set_nx]; omega))]; exact new_get.trans (if_pos rfl)
    have hpw : K2.ob K1.nx = .cells [.slice (some ⟨b, 0, none⟩) n c] 22 .ex := by rw [hK2, new_get, if_neg (by first | omega | (simp only [new_nx, set_nx]; omega)), new_get, if_neg (by first | omega | (simp only [new_nx, set_nx]; omega)), new_get, if_pos rfl]
    rw [← hK2]
    have hM2 : MkM K2 b H.nx (H.nx + 1) n c kd (upF f (h + 1) 0) (st'.headD 0) := hM1.mv (hold _ (by omega)) (hold _ (by omega)) (hold _ (by omega))
    have hfh : upF f (h + 1) 0 h = wd ws h + mkB := by
      rw [hp3.hd h haL, if_pos haS]
    have hlt := head_lt hF haL
    have htg : hdT (wd ws h + mkB) = (tgN ws h : Int) := by
      unfold tgN hdT mkB; omega
    refine (fields_it (K0 := K2) (a := h) (b := b) (n := n) (c := c) (kd := kd) (f := upF f (h + 1) 0) (t := tgN ws h) (fun k K' => ∃ f' S' st'' h', MkM K' b H.nx (H.nx + 1) n c kd f' h' ∧ MI ws roots ls f' S' st'' h' (fun x i => x = h ∧ k ≤ i) ∧ (∀ y ∈ S, y ∈ S') ∧ 2 * (ls.length - S'.length) + st''.length ≤ 2 * (ls.length - S.length) + st'.length ∧ K'.nx = K1.nx + 3 ∧ K'.ob (K1.nx + 2) = .loop .ready none fr3 (16, 0) ∧ ∀ y, y ≠ b → y ≠ H.nx + 1 → K'.ob y = K2.ob y) (fun k K' hI => ?_) ?_ hpw hM2.row (by omega) (by omega) (by rw [hfh]; unfold mkB; omega) (by rw [hfh]; exact htg) fun k K' hk hI => ?_).mono fun u K' hI => ?_
    · obtain ⟨f', S', st'', h', i1, i2, i3, i4, i5, i6, i7⟩ := hI
      rw [i7 _ (by omega) (by omega)]; exact hpa
    · exact ⟨_, S, st', _, hM2, hp3.weaken fun x i _ _ _ e => .inr ⟨e, Nat.zero_le _⟩, fun y hy => hy, Nat.le_refl _, hnx2, hlp, fun _ _ _ => rfl⟩
    · obtain ⟨f', S', st'', h', i1, i2, i3, i4, i5, i6, i7⟩ := hI
      have hR' : MkR H K' b := ⟨by omega, fun x hx hxb => by rw [i7 x hxb (by omega), hold x (by omega), hk1 x hxb (by omega)]; exact hR.2.1 x hx hxb, by rw [i7 _ (by omega) (by omega), hold _ (by omega), hk1 _ (by omega) (by omega)]; exact hp⟩
      refine (mark_round hF hn hu i1 i2 hR' hb i6 (by omega) (by omega) e2 e5 haL (i3 _ haS) hk).mono fun u K'' ⟨hu', f2, S2, st2, h2, j1, j2, j3, j4, j5, j6, j7, j8⟩ => ?_
      refine ⟨hu', f2, S2, st2, h2, j1, j2.weaken fun x i hx hi hki e => ?_, fun y hy => j4 y (i3 y hy), by omega, by omega, j7, fun y h1 h2 => (j8 y h1 h2).trans (i7 y h1 h2)⟩
      by_cases ei : i = k
      · obtain ⟨e, _⟩ := e
        subst e ei
        exact .inl (j3 hki)
      · exact .inr ⟨e.1, by omega⟩
    · obtain ⟨f', S', st'', h', i1, i2, i3, i4, i5, i6, i7⟩ := hI
      refine ⟨f', S', st'', h', i1, i2.weaken fun x i _ hi _ e => ?_, i3, i4, i5, i6, fun y h0 h1 h2 => by rw [i7 y h1 h2, hold y h0, hk1 y h1 h2]⟩
      obtain ⟨e1, e2⟩ := e
      subst e1
      omega
  have hcnt := mi.cnt
  by_cases hse : st' = []
  · subst hse
    rw [if_pos rfl] at hp1
    rw [hp1] at hg1
    have hM1 : MkM (((K.set (H.nx + 1) (.cells [.int .i64 (h : Int)] 3 .ex)).set (H.nx + 1) (.cells [.int .i64 0] 3 .ex)).set b (.cells (fnW n (upF f (h + 1) 0)) 42 kd)) b H.nx (H.nx + 1) n c kd (upF f (h + 1) 0) 0 := ⟨by rw [set_get, if_pos rfl], hro, by simp only [set_get]; rw [if_neg (by omega), if_neg (by omega), if_neg (by omega)]; exact hw, by simp only [set_get]; rw [if_neg (by omega), if_pos trivial]; rfl, hM.n1, hM.n2, hM.n3⟩
    repeat' (first | (simp (disch := first | omega | (decide +kernel) | (repeat first | assumption | exact HExt.refl _ | refine HExt.set ?_ (by first | omega | (simp only [new_nx, set_nx]; omega)) _ | refine HExt.new ?_ _)) only [↓r_seq, ↓r_block, ↓seqK_n, ↓seqK_r, ↓seqK_e, ↓blockK_n, ↓blockK_r, ↓blockK_e, ↓loopI_n, ↓loopI_r, ↓loopI_e, ↓funK_n, ↓funK_r, ↓r_reg, ↓r_drw, ↓r_cond, ↓condK_t, ↓condK_f, ↓i_cons, ↓eitemK, ↓e_nil, ↓e_cons, ↓e_grd, ↓egrd_tt, ↓egrd_ff, ↓egrd_tf, ↓egrd_ft, ↓egrd_s, ↓drwK, ↓r_drw2, ↓chk_nil, ↓chk_n, ↓chk_g, agL, agV_tt, agV_ff, agV_tf, agV_ft, agV_s, agE, accW_t, accW_f, isW, ↓i_grd, ↓grd_tt, ↓grd_ff, ↓grd_tf, ↓grd_ft, ↓grd_s, ↓itemK, ↓o_p, ↓o_l, ↓o_a, ↓o_w, ↓o_call, ↓o_callv, ↓callvK_f, ↓callvK_y, ↓r_range, ↓rangeV_f, ↓putF_get, ↓putF_none, ↓evF_t, ↓evF_c, ↓evF_f, new_nx, set_nx, new_get, set_get, optV_some, optW_some, optA_some, finK_some, ↓wpI_nil, ↓wpR_skip, ↓wpR_exit, ↓wpR_ret, getD_zero, getD_succ, b_add, b_sub, b_mul, b_quo, b_rem, b_eql, b_neq, b_lss, b_leq, b_gtr, b_geq, u_not, w_i64, w_u64, w_u8, t_div, t_mod, pop, lop, aop, wop, resL, resV, tupleV, akV, isVal, isCell, Value.cells, List.map_cons, List.map_nil, Bool.not_true, Bool.not_false, Option.map_some, ↓reduceIte, Nat.reduceEqDiff, Nat.reduceAdd, Int.reduceOfNat, Int.reduceNegSucc, decide_true, decide_false, reduceCtorEq, List.getElem?_cons_zero, List.getElem?_cons_succ, List.length_cons, List.length_nil, setc_0, setc_s, srcR_c, src_n, src_v, src_r, src_s, bnd, lenV, capV, Option.isSome_none, Option.isNone_none, Option.isSome_some, Option.isNone_some, Bool.or_false, Bool.or_true, Bool.true_or, Bool.false_or, List.take_succ_cons, List.take_zero, List.drop_succ_cons, List.drop_zero, List.cons_append, List.nil_append, List.append_nil, List.take_nil, List.drop_nil, List.all_cons, List.all_nil, Bool.and_true, Bool.true_and, List.size_toArray, List.getElem?_toArray, List.toList_toArray, bldV, Nat.reduceLeDiff, Nat.le_refl, u_neg, b_or0, Int.reduceMul, Int.reduceAdd, Int.reduceSub, Int.zero_mul, Int.zero_add, Int.add_zero, b_and3, b_and8, b_and24, b_shr2, b_shrs2, b_shr8, b_shr32, b_shr56, b_shl2, b_shl8, b_shl32, toNat_add1, toNat_add2, toNat_addn, toNat_add2n, Int.reduceToNat, maxLen_eq, zeros_one, zeros_two, zeros_three, take_mapl, List.length_map, List.map_append, List.length_append, beq_self_eq_true, beq_true, beq_false, Bool.false_xor, Bool.true_xor, Bool.xor_false, Bool.xor_true, dec_t, dec_f, ↓w_app, appS_some, appV_n, appV_v, appV_r, appR_c, appH_t, appH_f, Kd.isEx, Bool.false_and, partV, if_pos, if_neg, Nat.mul_one, Nat.one_mul, Nat.zero_add, Nat.add_zero, Int.toNat_natCast, true_and, and_true, hag2, hag, hh, hw, hrow, hro, hg1, ↓hs1, fnW_len, fields_iff]) | (with_reducible first | refine condK_dec (fun _ => ?_) fun _ => ?_ | refine grd_dec (fun _ => ?_) fun _ => ?_ | refine egrd_dec (fun _ => ?_) fun _ => ?_))
    refine (main (((K.set (H.nx + 1) (.cells [.int .i64 (h : Int)] 3 .ex)).set (H.nx + 1) (.cells [.int .i64 0] 3 .ex)).set b (.cells (fnW n (upF f (h + 1) 0)) 42 kd)) rfl hM1 (fun y h1 h2 => by simp only [set_get]; rw [if_neg h1, if_neg h2, if_neg h2]) _ (by repeat' (first | (simp (disch := first | omega | (decide +kernel) | (repeat first | assumption | exact HExt.refl _ | refine HExt.set ?_ (by first | omega | (simp only [new_nx, set_nx]; omega)) _ | refine HExt.new ?_ _)) only [↓RD, RU, accW_t, accW_f, isW, ↓putF_get, ↓putF_none, ↓evF_t, ↓evF_c, ↓evF_f, new_nx, set_nx, new_get, set_get, getD_zero, getD_succ, u_not, pop, lop, aop, wop, resL, resV, tupleV, akV, isVal, isCell, Value.cells, ρ0, ρ1, ρ2, ρ3, ρ4, ↓reduceIte, Nat.reduceEqDiff, Nat.reduceAdd, Int.reduceOfNat, Int.reduceNegSucc, reduceCtorEq, ρ5, ρ6, ρ7, ρ8, srcR_c, src_n, src_v, src_s, bnd, lenV, capV, ρ9, ρ10, ρ11, ρ12, ρ13, ρ14, ρ15, ρ16, ρ17, ρ18, ρ19, ρ20, ρ21, ρ22, ρ23, ρ24, Kd.isRo, ρ25, ρ26, bldV, Nat.reduceLeDiff, Int.reduceMul, Int.reduceAdd, Int.reduceSub, Int.reduceToNat, maxLen_eq, zeros_one, appS_some, appV_n, appV_v, appH_t, appH_f, Kd.isEx, ρ27, partV, CH.set_set, lkV, lkR, isKey, mupV, nxtV, ρ28, ρ29, hag2, hag]) | (with_reducible first | refine condK_dec (fun _ => ?_) fun _ => ?_ | refine grd_dec (fun _ => ?_) fun _ => ?_ | refine egrd_dec (fun _ => ?_) fun _ => ?_))) (by repeat' (first | (simp (disch := first | omega | (decide +kernel) | (repeat first | assumption | exact HExt.refl _ | refine HExt.set ?_ (by first | omega | (simp only [new_nx, set_nx]; omega)) _ | refine HExt.new ?_ _)) only [↓RD, RU, accW_t, accW_f, isW, ↓putF_get, ↓putF_none, ↓evF_t, ↓evF_c, ↓evF_f, new_nx, set_nx, new_get, set_get, getD_zero, getD_succ, u_not, pop, lop, aop, wop, resL, resV, tupleV, akV, isVal, isCell, Value.cells, ρ0, ρ1, ρ2, ρ3, ρ4, ↓reduceIte, Nat.reduceEqDiff, Nat.reduceAdd, Int.reduceOfNat, Int.reduceNegSucc, reduceCtorEq, ρ5, ρ6, ρ7, ρ8, srcR_c, src_n, src_v, src_s, bnd, lenV, capV, ρ9, ρ10, ρ11, ρ12, ρ13, ρ14, ρ15, ρ16, ρ17, ρ18, ρ19, ρ20, ρ21, ρ22, ρ23, ρ24, Kd.isRo, ρ25, ρ26, bldV, Nat.reduceLeDiff, Int.reduceMul, Int.reduceAdd, Int.reduceSub, Int.reduceToNat, maxLen_eq, zeros_one, appS_some, appV_n, appV_v, appH_t, appH_f, Kd.isEx, ρ27, partV, CH.set_set, lkV, lkR, isKey, mupV, nxtV, ρ28, ρ29, hag2, hag]) | (with_reducible first | refine condK_dec (fun _ => ?_) fun _ => ?_ | refine grd_dec (fun _ => ?_) fun _ => ?_ | refine egrd_dec (fun _ => ?_) fun _ => ?_)))).mono fun u K' ⟨f', S', st'', h', i1, i2, i3, i4, i5, i6, i7⟩ => ?_
    refine (rangeK_some i6 (by decide)).2 ?_
    simp only [jumpX]
    repeat' (first | (simp (disch := first | omega | (decide +kernel) | (repeat first | assumption | exact HExt.refl _ | refine HExt.set ?_ (by first | omega | (simp only [new_nx, set_nx]; omega)) _ | refine HExt.new ?_ _)) only [↓RD, RU, accW_t, accW_f, isW, ↓putF_get, ↓putF_none, ↓evF_t, ↓evF_c, ↓evF_f, new_nx, set_nx, new_get, set_get, getD_zero, getD_succ, u_not, pop, lop, aop, wop, resL, resV, tupleV, akV, isVal, isCell, Value.cells, ρ0, ρ1, ρ2, ρ3, ρ4, ↓reduceIte, Nat.reduceEqDiff, Nat.reduceAdd, Int.reduceOfNat, Int.reduceNegSucc, reduceCtorEq, ρ5, ρ6, ρ7, ρ8, srcR_c, src_n, src_v, src_s, bnd, lenV, capV, ρ9, ρ10, ρ11, ρ12, ρ13, ρ14, ρ15, ρ16, ρ17, ρ18, ρ19, ρ20, ρ21, ρ22, ρ23, ρ24, Kd.isRo, ρ25, ρ26, bldV, Nat.reduceLeDiff, Int.reduceMul, Int.reduceAdd, Int.reduceSub, Int.reduceToNat, maxLen_eq, zeros_one, appS_some, appV_n, appV_v, appH_t, appH_f, Kd.isEx, ρ27, partV, CH.set_set, lkV, lkR, isKey, mupV, nxtV, ρ28, ρ29, hag2, hag]) | (with_reducible first | refine condK_dec (fun _ => ?_) fun _ => ?_ | refine grd_dec (fun _ => ?_) fun _ => ?_ | refine egrd_dec (fun _ => ?_) fun _ => ?_))
    have hRn := hR.1
    have i5' : K'.nx = K.nx + 3 := i5
    have i7' : ∀ y, y < K.nx → y ≠ b → y ≠ H.nx + 1 → K'.ob y = K.ob y := i7
    have hset : ∀ y o, y < K.nx → (K'.set (K.nx + 1 + 1) o).ob y = K'.ob y := fun y o hy => by rw [set_get, if_neg (by omega)]
    refine ⟨_, ?_, f', S', st'', h', rfl, i1.mv (hset _ _ (by omega)) (hset _ _ (by omega)) (hset _ _ (by omega)), i2, hR.mv (by show K.nx ≤ K'.nx; omega) hb fun y h0 h1 h2 => (hset y _ h0).trans (i7' y h0 h1 h2), fun w hw' h0' => i3 _ (hrt w hw' h0')⟩
    have i4' : 2 * (ls.length - S'.length) + st''.length ≤ 2 * (ls.length - S.length) + 0 := i4
    omega
  · have hne := hp2 hse
    rw [if_neg hse] at hp1
    rw [hp1] at hg1
    have hhl := hhead hse
    have hM1 : MkM ((K.set (H.nx + 1) (.cells [.int .i64 ((st'.headD 0 : Nat) : Int)] 3 .ex)).set b (.cells (fnW n (upF f (h + 1) 0)) 42 kd)) b H.nx (H.nx + 1) n c kd (upF f (h + 1) 0) (st'.headD 0) := ⟨by rw [set_get, if_pos rfl], hro, by simp only [set_get]; rw [if_neg (by omega), if_neg (by omega)]; exact hw, by simp only [set_get]; rw [if_neg (by omega), if_pos trivial], hM.n1, hM.n2, hM.n3⟩
    obtain ⟨hx, hhx⟩ : ∃ hx, st'.headD 0 = hx := ⟨_, rfl⟩
    rw [hhx] at hM1 hg1 hne hhl
    repeat' (first | (simp (disch := first | omega | (decide +kernel) | (repeat first | assumption | exact HExt.refl _ | refine HExt.set ?_ (by first | omega | (simp only [new_nx, set_nx]; omega)) _ | refine HExt.new ?_ _)) only [↓r_seq, ↓r_block, ↓seqK_n, ↓seqK_r, ↓seqK_e, ↓blockK_n, ↓blockK_r, ↓blockK_e, ↓loopI_n, ↓loopI_r, ↓loopI_e, ↓funK_n, ↓funK_r, ↓r_reg, ↓r_drw, ↓r_cond, ↓condK_t, ↓condK_f, ↓i_cons, ↓eitemK, ↓e_nil, ↓e_cons, ↓e_grd, ↓egrd_tt, ↓egrd_ff, ↓egrd_tf, ↓egrd_ft, ↓egrd_s, ↓drwK, ↓r_drw2, ↓chk_nil, ↓chk_n, ↓chk_g, agL, agV_tt, agV_ff, agV_tf, agV_ft, agV_s, agE, accW_t, accW_f, isW, ↓i_grd, ↓grd_tt, ↓grd_ff, ↓grd_tf, ↓grd_ft, ↓grd_s, ↓itemK, ↓o_p, ↓o_l, ↓o_a, ↓o_w, ↓o_call, ↓o_callv, ↓callvK_f, ↓callvK_y, ↓r_range, ↓rangeV_f, ↓putF_get, ↓putF_none, ↓evF_t, ↓evF_c, ↓evF_f, new_nx, set_nx, new_get, set_get, optV_some, optW_some, optA_some, finK_some, ↓wpI_nil, ↓wpR_skip, ↓wpR_exit, ↓wpR_ret, getD_zero, getD_succ, b_add, b_sub, b_mul, b_quo, b_rem, b_eql, b_neq, b_lss, b_leq, b_gtr, b_geq, u_not, w_i64, w_u64, w_u8, t_div, t_mod, pop, lop, aop, wop, resL, resV, tupleV, akV, isVal, isCell, Value.cells, List.map_cons, List.map_nil, Bool.not_true, Bool.not_false, Option.map_some, ↓reduceIte, Nat.reduceEqDiff, Nat.reduceAdd, Int.reduceOfNat, Int.reduceNegSucc, decide_true, decide_false, reduceCtorEq, List.getElem?_cons_zero, List.getElem?_cons_succ, List.length_cons, List.length_nil, setc_0, setc_s, srcR_c, src_n, src_v, src_r, src_s, bnd, lenV, capV, Option.isSome_none, Option.isNone_none, Option.isSome_some, Option.isNone_some, Bool.or_false, Bool.or_true, Bool.true_or, Bool.false_or, List.take_succ_cons, List.take_zero, List.drop_succ_cons, List.drop_zero, List.cons_append, List.nil_append, List.append_nil, List.take_nil, List.drop_nil, List.all_cons, List.all_nil, Bool.and_true, Bool.true_and, List.size_toArray, List.getElem?_toArray, List.toList_toArray, bldV, Nat.reduceLeDiff, Nat.le_refl, u_neg, b_or0, Int.reduceMul, Int.reduceAdd, Int.reduceSub, Int.zero_mul, Int.zero_add, Int.add_zero, b_and3, b_and8, b_and24, b_shr2, b_shrs2, b_shr8, b_shr32, b_shr56, b_shl2, b_shl8, b_shl32, toNat_add1, toNat_add2, toNat_addn, toNat_add2n, Int.reduceToNat, maxLen_eq, zeros_one, zeros_two, zeros_three, take_mapl, List.length_map, List.map_append, List.length_append, beq_self_eq_true, beq_true, beq_false, Bool.false_xor, Bool.true_xor, Bool.xor_false, Bool.xor_true, dec_t, dec_f, ↓w_app, appS_some, appV_n, appV_v, appV_r, appR_c, appH_t, appH_f, Kd.isEx, Bool.false_and, partV, if_pos, if_neg, Nat.mul_one, Nat.one_mul, Nat.zero_add, Nat.add_zero, Int.toNat_natCast, true_and, and_true, hag2, hag, hh, hw, hrow, hro, hg1, ↓hs1, fnW_len, fields_iff]) | (with_reducible first | refine condK_dec (fun _ => ?_) fun _ => ?_ | refine grd_dec (fun _ => ?_) fun _ => ?_ | refine egrd_dec (fun _ => ?_) fun _ => ?_))
    refine (main ((K.set (H.nx + 1) (.cells [.int .i64 (hx : Int)] 3 .ex)).set b (.cells (fnW n (upF f (h + 1) 0)) 42 kd)) rfl (by rw [hhx]; exact hM1) (fun y h1 h2 => by simp only [set_get]; rw [if_neg h1, if_neg h2]) _ (by repeat' (first | (simp (disch := first | omega | (decide +kernel) | (repeat first | assumption | exact HExt.refl _ | refine HExt.set ?_ (by first | omega | (simp only [new_nx, set_nx]; omega)) _ | refine HExt.new ?_ _)) only [↓RD, RU, accW_t, accW_f, isW, ↓putF_get, ↓putF_none, ↓evF_t, ↓evF_c, ↓evF_f, new_nx, set_nx, new_get, set_get, getD_zero, getD_succ, u_not, pop, lop, aop, wop, resL, resV, tupleV, akV, isVal, isCell, Value.cells, ρ0, ρ1, ρ2, ρ3, ρ4, ↓reduceIte, Nat.reduceEqDiff, Nat.reduceAdd, Int.reduceOfNat, Int.reduceNegSucc, reduceCtorEq, ρ5, ρ6, ρ7, ρ8, srcR_c, src_n, src_v, src_s, bnd, lenV, capV, ρ9, ρ10, ρ11, ρ12, ρ13, ρ14, ρ15, ρ16, ρ17, ρ18, ρ19, ρ20, ρ21, ρ22, ρ23, ρ24, Kd.isRo, ρ25, ρ26, bldV, Nat.reduceLeDiff, Int.reduceMul, Int.reduceAdd, Int.reduceSub, Int.reduceToNat, maxLen_eq, zeros_one, appS_some, appV_n, appV_v, appH_t, appH_f, Kd.isEx, ρ27, partV, CH.set_set, lkV, lkR, isKey, mupV, nxtV, ρ28, ρ29, hag2, hag]) | (with_reducible first | refine condK_dec (fun _ => ?_) fun _ => ?_ | refine grd_dec (fun _ => ?_) fun _ => ?_ | refine egrd_dec (fun _ => ?_) fun _ => ?_))) (by repeat' (first | (simp (disch := first | omega | (decide +kernel) | (repeat first | assumption | exact HExt.refl _ | refine HExt.set ?_ (by first | omega | (simp only [new_nx, set_nx]; omega)) _ | refine HExt.new ?_ _)) only [↓RD, RU, accW_t, accW_f, isW, ↓putF_get, ↓putF_none, ↓evF_t, ↓evF_c, ↓evF_f, new_nx, set_nx, new_get, set_get, getD_zero, getD_succ, u_not, pop, lop, aop, wop, resL, resV, tupleV, akV, isVal, isCell, Value.cells, ρ0, ρ1, ρ2, ρ3, ρ4, ↓reduceIte, Nat.reduceEqDiff, Nat.reduceAdd, Int.reduceOfNat, Int.reduceNegSucc, reduceCtorEq, ρ5, ρ6, ρ7, ρ8, srcR_c, src_n, src_v, src_s, bnd, lenV, capV, ρ9, ρ10, ρ11, ρ12, ρ13, ρ14, ρ15, ρ16, ρ17, ρ18, ρ19, ρ20, ρ21, ρ22, ρ23, ρ24, Kd.isRo, ρ25, ρ26, bldV, Nat.reduceLeDiff, Int.reduceMul, Int.reduceAdd, Int.reduceSub, Int.reduceToNat, maxLen_eq, zeros_one, appS_some, appV_n, appV_v, appH_t, appH_f, Kd.isEx, ρ27, partV, CH.set_set, lkV, lkR, isKey, mupV, nxtV, ρ28, ρ29, hag2, hag]) | (with_reducible first | refine condK_dec (fun _ => ?_) fun _ => ?_ | refine grd_dec (fun _ => ?_) fun _ => ?_ | refine egrd_dec (fun _ => ?_) fun _ => ?_)))).mono fun u K' ⟨f', S', st'', h', i1, i2, i3, i4, i5, i6, i7⟩ => ?_
    refine (rangeK_some i6 (by decide)).2 ?_
    simp only [jumpX]
    repeat' (first | (simp (disch := first | omega | (decide +kernel) | (repeat first | assumption | exact HExt.refl _ | refine HExt.set ?_ (by first | omega | (simp only [new_nx, set_nx]; omega)) _ | refine HExt.new ?_ _)) only [↓RD, RU, accW_t, accW_f, isW, ↓putF_get, ↓putF_none, ↓evF_t, ↓evF_c, ↓evF_f, new_nx, set_nx, new_get, set_get, getD_zero, getD_succ, u_not, pop, lop, aop, wop, resL, resV, tupleV, akV, isVal, isCell, Value.cells, ρ0, ρ1, ρ2, ρ3, ρ4, ↓reduceIte, Nat.reduceEqDiff, Nat.reduceAdd, Int.reduceOfNat, Int.reduceNegSucc, reduceCtorEq, ρ5, ρ6, ρ7, ρ8, srcR_c, src_n, src_v, src_s, bnd, lenV, capV, ρ9, ρ10, ρ11, ρ12, ρ13, ρ14, ρ15, ρ16, ρ17, ρ18, ρ19, ρ20, ρ21, ρ22, ρ23, ρ24, Kd.isRo, ρ25, ρ26, bldV, Nat.reduceLeDiff, Int.reduceMul, Int.reduceAdd, Int.reduceSub, Int.reduceToNat, maxLen_eq, zeros_one, appS_some, appV_n, appV_v, appH_t, appH_f, Kd.isEx, ρ27, partV, CH.set_set, lkV, lkR, isKey, mupV, nxtV, ρ28, ρ29, hag2, hag]) | (with_reducible first | refine condK_dec (fun _ => ?_) fun _ => ?_ | refine grd_dec (fun _ => ?_) fun _ => ?_ | refine egrd_dec (fun _ => ?_) fun _ => ?_))
    have hRn := hR.1
    have i5' : K'.nx = K.nx + 3 := i5
    have i7' : ∀ y, y < K.nx → y ≠ b → y ≠ H.nx + 1 → K'.ob y = K.ob y := i7
    have hset : ∀ y o, y < K.nx → (K'.set (K.nx + 1 + 1) o).ob y = K'.ob y := fun y o hy => by rw [set_get, if_neg (by omega)]
    refine ⟨_, ?_, f', S', st'', h', rfl, i1.mv (hset _ _ (by omega)) (hset _ _ (by omega)) (hset _ _ (by omega)), i2, hR.mv (by show K.nx ≤ K'.nx; omega) hb fun y h0 h1 h2 => (hset y _ h0).trans (i7' y h0 h1 h2), fun w hw' h0' => i3 _ (hrt w hw' h0')⟩
    omega
end Can
end Go.Proofs.Ytopmheekeooodaa
