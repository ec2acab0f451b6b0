/- Parse, the program: parse.Parse, ahead of its deferred call. Parse, the program: parse.Parse answers parseT. Parse, its laws: the sources of the example, lexed by evaluation. Parse, its laws: the table in which it is told what Parse does; Same of trees. Parse, its laws: Source; the example holds. Parse, its laws: the example holds. Parse, its laws: tokens that grow; Same of two trees. Parse: how many kids a node has: not more than half as many as there are tokens, and a few. No program in sight. -/
import Derived.Test.YtnkfdkfmdeibfaaZi
import Derived.Test.YtnkfdkfmdeibfaaZm
import Derived.Test.YtnkfdkfmdeibfaaZd
import Derived.Test.YtnkfdkfmdeibfaaZh
section
namespace Go.Proofs.Ytnkfdkfmdeibfaa
namespace Can
open Go Go.RowKit
set_option linter.unusedSimpArgs false
set_option linter.unusedVariables false
set_option maxRecDepth 4000
def zNd : Nd := .mk 0 0 [] 0 []
def parseT (ts : List PT) : Nd × Int × Int := match gr ts (ts.length * 64 + 100) (.top []) 0 with
  | some (.ok (l, _)) => if 60 < htL l + 1 then (zNd, 0, 11) else (nd 1 (hdLine (nowT ts 0).line l) l, 0, 0)
  | some (.error e) => (zNd, (nowT ts e).line, 22)
  | none => (zNd, 0, 0)
noncomputable def prP : List Item × List Item × RCode × RCode × RCode := match (rF Try.prog 8).body with
  | .seq (.reg a) (.seq (.reg b) (.seq .bad (.seq c (.seq d e)))) => (a, b, c, d, e)
  | _ => ([], [], .skip, .skip, .skip)
theorem pr_body : (rF Try.prog 8).body = .seq (.reg prP.1) (.seq (.reg prP.2.1) (.seq .bad (.seq prP.2.2.1 (.seq prP.2.2.2.1 prP.2.2.2.2)))) := by kernel_rfl
theorem pr_res : (rF Try.prog 8).res = [.lda 5 2, .ld 3, .ld 4] := by kernel_rfl
def prK (H : CH) (sl : Sl) : CH := (((H.new (.cells [.int .i64 0, .int .i64 0, .string ⟨⟨[]⟩⟩, .int .i64 0, .slice none 0 0] 28 .ex)).new (.cells [.int .i64 0] 3 .ex)).new (.cells [.int .i64 0] 29 .ex)).new (rpC sl 0)
abbrev pP (l : Nat) : Value := .pointer (some ⟨l, 0, none⟩)
theorem pr_r0 {H : CH} {fr : Fr} {sl : Sl} (h0 : fr 0 = .slice sl.q sl.n sl.c) : WpR (tblG Try.prog LG GG) (.reg prP.1) fr H fun x fr1 H1 => x = .normal ∧ WpR (tblG Try.prog LG GG) (.reg prP.2.1) fr1 H1 fun x fr2 H2 => x = .normal ∧ fr2 2 = pP H.nx ∧ fr2 3 = pP (H.nx + 1) ∧ fr2 4 = pP (H.nx + 2) ∧ fr2 5 = pP (H.nx + 3) ∧ H2 = prK H sl := by
  have e1 : prP.1 = _ := rfl
  conv at e1 => rhs; reduce
  have e2 : prP.2.1 = _ := rfl
  conv at e2 => rhs; reduce
  rw [e1, e2]
  repeat' (first | (simp (disch := first | omega | (decide +kernel) | (repeat first | assumption | exact HExt.refl _ | refine HExt.set ?_ (by first | omega | (simp only [new_nx, set_nx]; omega)) _ | refine HExt.new ?_ _)) only [↓RD, RU, accW_t, accW_f, isW, ↓putF_get, ↓putF_none, ↓evF_t, ↓evF_c, ↓evF_f, new_nx, set_nx, new_get, set_get, getD_zero, getD_succ, u_not, pop, lop, aop, wop, resL, resV, tupleV, akV, isVal, isCell, Value.cells, ρ0, ρ1, ρ2, ρ3, ρ4, ↓reduceIte, Nat.reduceEqDiff, Nat.reduceAdd, Int.reduceOfNat, Int.reduceNegSucc, reduceCtorEq, ρ5, ρ6, ρ7, ρ8, srcR_c, src_n, src_v, src_s, bnd, lenV, capV, ρ9, ρ10, ρ11, ρ12, ρ13, ρ14, ρ15, ρ16, ρ17, ρ18, ρ19, ρ20, ρ21, ρ22, ρ23, ρ24, Kd.isRo, ρ25, ρ26, bldV, Nat.reduceLeDiff, Int.reduceMul, Int.reduceAdd, Int.reduceSub, Int.reduceToNat, maxLen_eq, zeros_one, appS_some, appV_n, appV_v, appH_t, appH_f, Kd.isEx, ρ27, partV, CH.set_set, lkV, lkR, isKey, mupV, nxtV, ρ28, ρ29, h0]) | (with_reducible first | refine condK_dec (fun _ => ?_) fun _ => ?_ | refine grd_dec (fun _ => ?_) fun _ => ?_ | refine egrd_dec (fun _ => ?_) fun _ => ?_))
  rfl
def prZ (H : CH) (sl : Sl) : TP := ⟨fun b => ∃ o, sl.q = some ⟨b, o, none⟩, H.ob⟩
theorem prZ_in {H : CH} {sl : Sl} {ts : List PT} (h : SlAt 3 CTk H sl.q sl.c ts) {b : Nat} (hb : (prZ H sl).N b) : b < H.nx := by
  obtain ⟨o, ho⟩ := hb
  rcases h with ⟨_, _, h | h | h⟩ | ⟨l, o', os, e, k, q, hl, _⟩
  · rw [h] at ho; cases ho
  · rw [h] at ho; cases ho
  · rw [h] at ho; cases ho
  · rw [q] at ho; cases ho; exact hl
theorem prZ_ok {H : CH} {sl : Sl} {ts : List PT} (h : SlAt 3 CTk H sl.q sl.c ts) (hn : sl.n = ts.length) : TkZ (prZ H sl) sl ts := by
  refine ⟨hn, fun l o q => ⟨o, q⟩, fun K hK => ?_⟩
  rcases h with ⟨h1, h2, h3⟩ | ⟨l, o, os, e, k, q, h1, h2, h3, h4, h5, h6⟩
  · exact .inl ⟨h1, h2, h3⟩
  · obtain ⟨g1, g2⟩ := hK l ⟨o, q⟩
    exact .inr ⟨l, o, os, e, k, q, g1, h2, h3, g2.trans h4, h5, h6⟩
def prF (H : CH) : TFr := fun t => [.bad, .bad, rS (pP H.nx), rS (pP (H.nx + 1)), rS (pP (H.nx + 2)), .ptr 0 0].getD t .bad
theorem prK_nx {H : CH} {sl : Sl} : (prK H sl).nx = H.nx + 4 := rfl
theorem prK_old {H : CH} {sl : Sl} {b : Nat} (hb : b < H.nx) : (prK H sl).ob b = H.ob b := by
  unfold prK
  rw [new_ne (by simp only [new_nx]; omega), new_ne (by simp only [new_nx]; omega), new_ne (by simp only [new_nx]; omega), new_ne (by omega)]
theorem prK_r {H : CH} {sl : Sl} : (prK H sl).ob (H.nx + 3) = rpC sl 0 := new_get.trans (if_pos rfl)
theorem pr_start {H : CH} {sl : Sl} {ts : List PT} (h : SlAt 3 CTk H sl.q sl.c ts) {cfr : Fr} (c2 : cfr 2 = pP H.nx) (c3 : cfr 3 = pP (H.nx + 1)) (c4 : cfr 4 = pP (H.nx + 2)) (c5 : cfr 5 = pP (H.nx + 3)) :
    TR (prZ H sl) (prK H sl) (some (H.nx + 3)) (prK H sl) (st0 (rdR sl 0)) (prF H) cfr (E0 (some (H.nx + 3)) fun b => b < H.nx + 4 ∧ b ≠ H.nx + 3) := by
  have t0 : TR (prZ H sl) (prK H sl) (some (H.nx + 3)) (prK H sl) (st0 (rdR sl 0)) (fun t => ([] : List AV).getD t .bad) (fun t => ([] : List Value).getD t undef) (E0 (some (H.nx + 3)) fun b => b < H.nx + 4 ∧ b ≠ H.nx + 3) := by
    refine TR.start (e := none) (fun b hb => ⟨hb.1, fun e => hb.2 (by cases e; rfl)⟩) (fun b hb => ?_) .nil (self_mk (by rw [prK_nx]; omega) prK_r)
    have := prZ_in h hb
    exact ⟨by rw [prK_nx]; omega, fun e => by cases e; omega, prK_old this⟩
  refine { t0 with frm := fun t => ?_ }
  match t with
  | 0 => exact .bad
  | 1 => exact .bad
  | 2 => rw [c2]; exact rS_rel rfl
  | 3 => rw [c3]; exact rS_rel rfl
  | 4 => rw [c4]; exact rS_rel rfl
  | 5 => rw [c5]; exact .ptr rfl
  | n + 6 => exact .bad
theorem set_ne' {K : CH} {p b : Nat} {o : CObj} (h : b ≠ p) : (K.set p o).ob b = K.ob b := by
  simp only [CH.set]
  rw [if_neg h]
theorem tc_wp {T : Tbl} {X : Pan} {f : FuncId} {args : List AV} {Q : AV → List SV → Prop} (h : TC ⟨fun _ => False, fun _ => .dead⟩ T X f args none Q fun _ => False) {K : CH} {vs : List Value} (hv : R2 (AVR K (E0 none fun _ => False)) args vs) : WpF T f vs K fun v K' => HExt K K' ∧ ∃ a s', AVR K' (E0 none fun _ => False) a v ∧ Q a s' := by
  rcases h K none (fun _ => False) vs (fun _ h => h.elim) (fun _ h => h.elim) hv rfl with h | ⟨n, v, H', _, h⟩
  · exact h.mono fun v K' ⟨h1, h2, a, s', h3, _, _, h4⟩ => ⟨⟨h1, fun b hb => h2 b hb (by simp)⟩, a, s', h3, h4⟩
  · exact h.2.2.elim
attribute [local irreducible] TC isT nowT begT placeN
theorem pr_t3 {Z : TP} {X : Pan} {W : Int → Value} {ts : List PT} {sl : Sl} {H : CH} {R : Value → Prop} (C : PCtx Z X W ts sl) : twR Z (tblG Try.prog LG GG) X DT R prP.2.2.1 (prF H) (st0 (rdR sl 0)) fun x fr st => x = .normal ∧ (∃ nt v, st = ⟨nt, [(v, 43, (oR sl 0).2.2), (v, 28, nC 1 (nowT ts 0).line [] 0 (.s (.row 5 [])))]⟩) ∧ fr 2 = rS (pP H.nx) ∧ fr 3 = rS (pP (H.nx + 1)) ∧ fr 4 = rS (pP (H.nx + 2)) ∧ fr 5 = .ptr 0 0 ∧ fr 6 = .ptr 1 0 := by
  have e : prP.2.2.1 = _ := rfl
  conv at e => rhs; reduce
  rw [e]
  clear e
  conv => whnf
  refine now_tc C (Nat.zero_le _) ?_
  conv => whnf
  exact ⟨rfl, ⟨_, _, rfl⟩, rfl, rfl, rfl, rfl, rfl⟩
def prG (H : CH) : TFr := fun t => [.bad, .bad, rS (pP H.nx), rS (pP (H.nx + 1)), rS (pP (H.nx + 2)), .ptr 0 0, .ptr 1 0].getD t .bad
def AccT (acc : List Nd) (c : CV) : Prop := (acc = [] ∧ c = .s (.row 5 [])) ∨ ∃ t, c = .own t 28 5 (ndsS acc)
theorem pr_tL {Z : TP} {X : Pan} {W : Int → Value} {ts : List PT} {sl : Sl} {H : CH} {R : Value → Prop} (C : PCtx Z X W ts sl) {f nt v : Nat} (ih : ∀ m, m < f → PAll Z X W ts sl m) {E : Nat → Prop} {P : List Nd → Nat → Prop} (hG : Gd E P (gr ts f (.top []) 0)) (hE : ∀ e, E e → R (W (nowT ts e).line)) :
    twR Z (tblG Try.prog LG GG) X DT R prP.2.2.2.1 (prG H) ⟨nt, [(v, 43, (oR sl 0).2.2), (v, 28, nC 1 (nowT ts 0).line [] 0 (.s (.row 5 [])))]⟩ fun x fr st => x = .normal ∧ (∃ l j nt u v c, P l j ∧ AccT l c ∧ st = ⟨nt, [(u, 43, (oR sl j).2.2), (v, 28, nC 1 (hdLine (nowT ts 0).line l) [] 0 c)]⟩) ∧ fr 2 = rS (pP H.nx) ∧ fr 3 = rS (pP (H.nx + 1)) ∧ fr 4 = rS (pP (H.nx + 2)) ∧ fr 6 = .ptr 1 0 := by
  have e : prP.2.2.2.1 = _ := rfl
  conv at e => rhs; reduce
  rw [e]
  clear e
  have hlen := C.len
  conv => whnf
  refine loop_0 (fun m s => ∃ acc j c, AccV acc c ∧ s = ⟨1, [oR sl j, oN (nC 1 (hdLine (nowT ts 0).line acc) [] 0 c)]⟩ ∧ j ≤ ts.length ∧ m ≤ f ∧ 2 * acc.length ≤ j ∧ Gd E P (gr ts m (.top acc) j)) f [99] rfl ⟨[], _, _, .inl ⟨rfl, rfl⟩, rfl, by omega, Nat.le_refl _, by simp only [List.length_nil]; omega, hG⟩ ?_
  rintro m f1 s ⟨acc, j, c, hA, rfl, hj, hmf, hb2, hG⟩
  rcases m with _ | m
  · exact hG.elim
  have ihm := ih m (by omega)
  simp only [gr] at hG
  rcases hA with ⟨rfl, rfl⟩ | ⟨hne, rfl⟩
  rotate_left
  rcases acc with _ | ⟨⟨k2, l2, x2, o2, ks2⟩, acc⟩
  · exact absurd rfl hne
  all_goals
    try simp only [List.length_cons, List.length_nil] at hb2
    (conv => whnf)
    refine now_tc C (by omega) ?_
    (conv => whnf)
    generalize hk : ((nowT ts j).kind != Int.ofNat 0) = bb
    cases bb
    · have hk0 : (nowT ts j).kind = 0 := by simpa using hk
      rw [if_pos hk0] at hG
      (conv => whnf)
      first
        | exact ⟨rfl, ⟨_, _, _, _, _, _, hG, .inr ⟨_, rfl⟩, rfl⟩, rfl, rfl, rfl, rfl⟩
        | exact ⟨rfl, ⟨_, _, _, _, _, _, hG, .inl ⟨rfl, rfl⟩, rfl⟩, rfl, rfl, rfl, rfl⟩
    · have hk0 : ¬ (nowT ts j).kind = 0 := by simpa using hk
      rw [if_neg hk0] at hG
      have hlt := kd_lt hk0
      (conv => whnf)
      repeat' first
        | (refine rul_st ihm.stmt hG (by trivial) rfl (by intro e he; first | exact hE e he | exact ⟨True.intro, hE e he⟩) (by omega) ?_; intro n1 l1 x1 o1 ks1 j1 hp1 hj1 hG; simp only [NT.min] at hp1; (conv => whnf))
        | (intro (hmx : _ ≤ maxLen); (conv => whnf))
        | exact ⟨m, [2], by omega, rfl, _, _, _, accV_app rfl, rfl, by omega, by omega, (by simp only [List.length_append, List.length_cons, List.length_nil] at *; omega), hG⟩
        | (refine ⟨rfl, 0, _, rfl, rfl, ?_⟩; (conv => whnf))
        | (refine ⟨rfl, ?_⟩; (conv => whnf))
        | (refine ⟨bdA (by simp only [List.length_append, List.length_cons, List.length_nil, ndsS_len]; omega), ?_⟩; (conv => whnf))
theorem row_slc {K : CH} {A : Nat → Prop} {sz : Nat} {gs : List (List SV)} {w : Value} (h : SVR K A (.row sz gs) w) : ∃ a n c, w = .slice a n c := by
  cases h with
  | row0 => exact ⟨_, _, _, rfl⟩
  | row => exact ⟨_, _, _, rfl⟩
theorem nd_rel {K : CH} {A : Nat → Prop} (hA : ∀ b, A b → b < K.nx) {k : Nat} {l : Int} {x : List UInt8} {o : Nat} {ks : List Nd} {w : Value} (hw : SVR K A (.row 5 (ndsS ks)) w) : R2 (AVR K (E0 none fun _ => False)) [ndA (.mk k l x o ks)] [.agg #[.int .i64 (k : Nat), .int .i64 l, .string ⟨⟨x⟩⟩, .int .i64 (o : Nat), w]] := by
  refine .cons ?_ .nil
  have hw' : SVR K (Frz K (E0 none fun _ => False)) (.row 5 (ndsS ks)) w := hw.mv fun b hb => ⟨⟨hA b hb, fun h => h, (fun _ q => (by cases q)), fun o q => (by
    have q : (if o = 0 then none else none) = some b := q
    split at q <;> cases q)⟩, rfl⟩
  exact .r (.agg (vs := [.int .i64 (k : Nat), .int .i64 l, .string ⟨⟨x⟩⟩, .int .i64 (o : Nat), w]) (.cons (.s (.sc rfl)) (.cons (.s (.sc rfl)) (.cons (.s (.sc rfl)) (.cons (.s (.sc rfl)) (.cons (.s hw') .nil))))))
theorem height_wp {K : CH} {A : Nat → Prop} (hA : ∀ b, A b → b < K.nx) {k : Nat} {l : Int} {x : List UInt8} {o : Nat} {ks : List Nd} {w : Value} (hw : SVR K A (.row 5 (ndsS ks)) w) (hh : htL ks + 1 ≤ 9223372036854775807) : WpF (tblG Try.prog LG GG) 18 [.agg #[.int .i64 (k : Nat), .int .i64 l, .string ⟨⟨x⟩⟩, .int .i64 (o : Nat), w]] K fun v K' => HExt K K' ∧ v = .int .i64 (htL ks + 1 : Nat) :=
  (tc_wp (X := pX) (height_tc (nsz (.mk k l x o ks) + 1) k l x o ks (Nat.lt_succ_self _) hh (fun a _ => a = rS (.int .i64 (htL ks + 1 : Nat))) _ rfl) (nd_rel hA hw)).mono fun v K' ⟨h1, a, s', h2, h3⟩ => ⟨h1, by subst h3; exact raw_rel h2 rfl⟩
def PrO (H : CH) (t : Nd) (ln er : Int) (vs : List Value) (K' : CH) : Prop := HExt H K' ∧ ∃ os, vs = [.agg os.toArray, .int .i64 ln, .int .i64 er] ∧ SVRs K' (fun b => H.nx ≤ b ∧ b < K'.nx) (ndS t) os
def TyV (vs : List Value) (K' : CH) : Prop := ∀ a0 a1 a2 a3 b n c r, vs = .agg #[a0, a1, a2, a3, .slice (some ⟨b, 0, none⟩) n c] :: r → ∃ cs kd, K'.ob b = .cells cs 28 kd
theorem pr_rest {H K : CH} {fr : Fr} {b : Nat} {l : List Nd} {ln : Int} {w : Value} (h2 : fr 2 = pP H.nx) (h3 : fr 3 = pP (H.nx + 1)) (h4 : fr 4 = pP (H.nx + 2)) (h6 : fr 6 = pP b) (o2 : K.ob H.nx = .cells [.int .i64 0, .int .i64 0, .string ⟨⟨[]⟩⟩, .int .i64 0, .slice none 0 0] 28 .ex) (o3 : K.ob (H.nx + 1) = .cells [.int .i64 0] 3 .ex) (o4 : K.ob (H.nx + 2) = .cells [.int .i64 0] 29 .ex)
    (o6 : K.ob b = .cells [.int .i64 1, .int .i64 ln, .string ⟨⟨[]⟩⟩, .int .i64 0, w] 28 .ex) (hn : H.nx + 4 ≤ K.nx) (hb : b < K.nx) (hb4 : H.nx + 4 ≤ b) (hw : SVR K (fun b => H.nx + 4 ≤ b ∧ b < K.nx) (.row 5 (ndsS l)) w) (hh : htL l + 1 ≤ 9223372036854775807) (hold : ∀ b, b < H.nx → K.ob b = H.ob b) (hty : ∀ b n c, w = .slice (some ⟨b, 0, none⟩) n c → b < K.nx ∧ H.nx + 4 ≤ b ∧ ∃ cs kd, K.ob b = .cells cs 28 kd) :
    WpR (tblG Try.prog LG GG) prP.2.2.2.2 fr K fun x fr' K' => x = .ret ∧ ∃ vs, resL fr' K' [.lda 5 2, .ld 3, .ld 4] = some vs ∧ PrO H (if 60 < htL l + 1 then zNd else .mk 1 ln [] 0 l) 0 (if 60 < htL l + 1 then 11 else 0) vs K' ∧ TyV vs K' := by
  obtain ⟨wa, wn, wc, rfl⟩ : ∃ a n c, w = .slice a n c := by
    exact row_slc hw
  have e : prP.2.2.2.2 = _ := rfl
  conv at e => rhs; reduce
  rw [e]
  clear e
  repeat' (first | (simp (disch := first | omega | (decide +kernel) | (repeat first | assumption | exact HExt.refl _ | refine HExt.set ?_ (by first | omega | (simp only [new_nx, set_nx]; omega)) _ | refine HExt.new ?_ _)) only [↓RD, RU, accW_t, accW_f, isW, ↓putF_get, ↓putF_none, ↓evF_t, ↓evF_c, ↓evF_f, new_nx, set_nx, new_get, set_get, getD_zero, getD_succ, u_not, pop, lop, aop, wop, resL, resV, tupleV, akV, isVal, isCell, Value.cells, ρ0, ρ1, ρ2, ρ3, ρ4, ↓reduceIte, Nat.reduceEqDiff, Nat.reduceAdd, Int.reduceOfNat, Int.reduceNegSucc, reduceCtorEq, ρ5, ρ6, ρ7, ρ8, srcR_c, src_n, src_v, src_s, bnd, lenV, capV, ρ9, ρ10, ρ11, ρ12, ρ13, ρ14, ρ15, ρ16, ρ17, ρ18, ρ19, ρ20, ρ21, ρ22, ρ23, ρ24, Kd.isRo, ρ25, ρ26, bldV, Nat.reduceLeDiff, Int.reduceMul, Int.reduceAdd, Int.reduceSub, Int.reduceToNat, maxLen_eq, zeros_one, appS_some, appV_n, appV_v, appH_t, appH_f, Kd.isEx, ρ27, partV, CH.set_set, lkV, lkR, isKey, mupV, nxtV, ρ28, ρ29, h6, o6]) | (with_reducible first | refine condK_dec (fun _ => ?_) fun _ => ?_ | refine grd_dec (fun _ => ?_) fun _ => ?_ | refine egrd_dec (fun _ => ?_) fun _ => ?_))
  refine (height_wp (k := 1) (x := []) (o := 0) (fun _ h => h.2) hw hh).mono fun v K4 ⟨hx, e⟩ => ?_
  subst e
  have g2 := (hx.ob _ (show H.nx < K.nx by omega)).trans o2
  have g3 := (hx.ob _ (show H.nx + 1 < K.nx by omega)).trans o3
  have g4 := (hx.ob _ (show H.nx + 2 < K.nx by omega)).trans o4
  have g6 := (hx.ob _ hb).trans o6
  have hnx := hx.nx
  have hH4 : HExt H K4 := ⟨by omega, fun b hb => (hx.ob b (by omega)).trans (hold b hb)⟩
  by_cases h60 : 60 < htL l + 1
  · have hb1 : decide ((60 : Int) < ((htL l + 1 : Nat) : Int)) = true := decide_eq_true (by omega)
    repeat' (first | (simp (disch := first | omega | (decide +kernel) | (repeat first | assumption | exact HExt.refl _ | refine HExt.set ?_ (by first | omega | (simp only [new_nx, set_nx]; omega)) _ | refine HExt.new ?_ _)) only [↓RD, RU, accW_t, accW_f, isW, ↓putF_get, ↓putF_none, ↓evF_t, ↓evF_c, ↓evF_f, new_nx, set_nx, new_get, set_get, getD_zero, getD_succ, u_not, pop, lop, aop, wop, resL, resV, tupleV, akV, isVal, isCell, Value.cells, ρ0, ρ1, ρ2, ρ3, ρ4, ↓reduceIte, Nat.reduceEqDiff, Nat.reduceAdd, Int.reduceOfNat, Int.reduceNegSucc, reduceCtorEq, ρ5, ρ6, ρ7, ρ8, srcR_c, src_n, src_v, src_s, bnd, lenV, capV, ρ9, ρ10, ρ11, ρ12, ρ13, ρ14, ρ15, ρ16, ρ17, ρ18, ρ19, ρ20, ρ21, ρ22, ρ23, ρ24, Kd.isRo, ρ25, ρ26, bldV, Nat.reduceLeDiff, Int.reduceMul, Int.reduceAdd, Int.reduceSub, Int.reduceToNat, maxLen_eq, zeros_one, appS_some, appV_n, appV_v, appH_t, appH_f, Kd.isEx, ρ27, partV, CH.set_set, lkV, lkR, isKey, mupV, nxtV, ρ28, ρ29, h2, h3, h4, g2, g3, g4, hb1]) | (with_reducible first | refine condK_dec (fun _ => ?_) fun _ => ?_ | refine grd_dec (fun _ => ?_) fun _ => ?_ | refine egrd_dec (fun _ => ?_) fun _ => ?_))
    refine ⟨_, rfl, ⟨((hH4.set (Nat.le_refl _) _).set (by omega) _).set (by omega) _, _, rfl, .cons (.sc rfl) (.cons (.sc rfl) (.cons (.sc rfl) (.cons (.sc rfl) (.cons .row0 .nil))))⟩, ?_⟩
    intro a0 a1 a2 a3 b n c r e
    simp at e
  · have hb1 : decide ((60 : Int) < ((htL l + 1 : Nat) : Int)) = false := decide_eq_false (by omega)
    repeat' (first | (simp (disch := first | omega | (decide +kernel) | (repeat first | assumption | exact HExt.refl _ | refine HExt.set ?_ (by first | omega | (simp only [new_nx, set_nx]; omega)) _ | refine HExt.new ?_ _)) only [↓RD, RU, accW_t, accW_f, isW, ↓putF_get, ↓putF_none, ↓evF_t, ↓evF_c, ↓evF_f, new_nx, set_nx, new_get, set_get, getD_zero, getD_succ, u_not, pop, lop, aop, wop, resL, resV, tupleV, akV, isVal, isCell, Value.cells, ρ0, ρ1, ρ2, ρ3, ρ4, ↓reduceIte, Nat.reduceEqDiff, Nat.reduceAdd, Int.reduceOfNat, Int.reduceNegSucc, reduceCtorEq, ρ5, ρ6, ρ7, ρ8, srcR_c, src_n, src_v, src_s, bnd, lenV, capV, ρ9, ρ10, ρ11, ρ12, ρ13, ρ14, ρ15, ρ16, ρ17, ρ18, ρ19, ρ20, ρ21, ρ22, ρ23, ρ24, Kd.isRo, ρ25, ρ26, bldV, Nat.reduceLeDiff, Int.reduceMul, Int.reduceAdd, Int.reduceSub, Int.reduceToNat, maxLen_eq, zeros_one, appS_some, appV_n, appV_v, appH_t, appH_f, Kd.isEx, ρ27, partV, CH.set_set, lkV, lkR, isKey, mupV, nxtV, ρ28, ρ29, h2, h3, h4, h6, g2, g3, g4, g6, hb1]) | (with_reducible first | refine condK_dec (fun _ => ?_) fun _ => ?_ | refine grd_dec (fun _ => ?_) fun _ => ?_ | refine egrd_dec (fun _ => ?_) fun _ => ?_))
    refine ⟨_, rfl, ⟨((hH4.set (Nat.le_refl _) _).set (by omega) _).set (by omega) _, _, rfl, .cons (.sc rfl) (.cons (.sc rfl) (.cons (.sc rfl) (.cons (.sc rfl) (.cons (hw.mv fun b hb => ⟨⟨by omega, Nat.lt_of_lt_of_le hb.2 hnx⟩, ?_⟩) .nil))))⟩, ?_⟩
    · rw [set_ne' (by omega), set_ne' (by omega), set_ne' (by omega)]
      exact hx.ob b hb.2
    · intro a0 a1 a2 a3 b n c r e
      simp only [List.cons.injEq, Value.agg.injEq, Array.mk.injEq] at e
      obtain ⟨⟨_, _, _, _, e, _⟩, _⟩ := e
      obtain ⟨q1, q2, cs, kd, q3⟩ := hty b n c e
      exact ⟨cs, kd, by rw [set_ne' (by omega), set_ne' (by omega), set_ne' (by omega), hx.ob b q1]; exact q3⟩
end Can
end Go.Proofs.Ytnkfdkfmdeibfaa
end
section
namespace Go.Proofs.Ytnkfdkfmdeibfaa
namespace Can
open Go Go.RowKit
set_option linter.unusedSimpArgs false
set_option linter.unusedVariables false
set_option maxRecDepth 4000
theorem gd_eval {H K : CH} {l : Int} (o2 : K.ob H.nx = .cells [.int .i64 0, .int .i64 0, .string ⟨⟨[]⟩⟩, .int .i64 0, .slice none 0 0] 28 .ex) (o3 : K.ob (H.nx + 1) = .cells [.int .i64 0] 3 .ex) (o4 : K.ob (H.nx + 2) = .cells [.int .i64 0] 29 .ex) (hn : H.nx + 4 ≤ K.nx) :
    gdG [pP H.nx, pP (H.nx + 1), pP (H.nx + 2)] (wrV l) K ((((gdH K l).set H.nx (.cells [.int .i64 0, .int .i64 0, .string ⟨⟨[]⟩⟩, .int .i64 0, .slice none 0 0] 28 .ex)).set (H.nx + 1) (.cells [.int .i64 l] 3 .ex)).set (H.nx + 2) (.cells [.int .i64 22] 29 .ex)) := by
  refine ⟨rfl, l, rfl, ?_⟩
  unfold gdH
  conv in gdD => reduce
  have hn0 : H.nx ≠ K.nx := by omega
  have hn1 : H.nx + 1 ≠ K.nx := by omega
  have hn2 : H.nx + 2 ≠ K.nx := by omega
  repeat' (first | (simp (disch := first | omega | (decide +kernel) | (repeat first | assumption | exact HExt.refl _ | refine HExt.set ?_ (by first | omega | (simp only [new_nx, set_nx]; omega)) _ | refine HExt.new ?_ _)) only [↓RD, RU, accW_t, accW_f, isW, ↓putF_get, ↓putF_none, ↓evF_t, ↓evF_c, ↓evF_f, new_nx, set_nx, new_get, set_get, getD_zero, getD_succ, u_not, pop, lop, aop, wop, resL, resV, tupleV, akV, isVal, isCell, Value.cells, ρ0, ρ1, ρ2, ρ3, ρ4, ↓reduceIte, Nat.reduceEqDiff, Nat.reduceAdd, Int.reduceOfNat, Int.reduceNegSucc, reduceCtorEq, ρ5, ρ6, ρ7, ρ8, srcR_c, src_n, src_v, src_s, bnd, lenV, capV, ρ9, ρ10, ρ11, ρ12, ρ13, ρ14, ρ15, ρ16, ρ17, ρ18, ρ19, ρ20, ρ21, ρ22, ρ23, ρ24, Kd.isRo, ρ25, ρ26, bldV, Nat.reduceLeDiff, Int.reduceMul, Int.reduceAdd, Int.reduceSub, Int.reduceToNat, maxLen_eq, zeros_one, appS_some, appV_n, appV_v, appH_t, appH_f, Kd.isEx, ρ27, partV, CH.set_set, lkV, lkR, isKey, mupV, nxtV, ρ28, ρ29, o2, o3, o4, hn0, hn1, hn2]) | (with_reducible first | refine condK_dec (fun _ => ?_) fun _ => ?_ | refine grd_dec (fun _ => ?_) fun _ => ?_ | refine egrd_dec (fun _ => ?_) fun _ => ?_))
theorem fn_ok {P : Program} {f : Nat} (h : (resFunc P (fun N ops => resD P N ops) f).isSome = true) : FuncOk P f (rF P f) := by
  refine resFunc_ok (fun N ops d h => resD_ok h) (rd := fun N ops => resD P N ops) ?_
  unfold rF
  cases hr : resFunc P (fun N ops => resD P N ops) f with
  | none => rw [hr] at h; cases h
  | some r => rfl
theorem prK_2 {H : CH} {sl : Sl} : (prK H sl).ob H.nx = .cells [.int .i64 0, .int .i64 0, .string ⟨⟨[]⟩⟩, .int .i64 0, .slice none 0 0] 28 .ex := by
  unfold prK
  rw [new_ne (by simp only [new_nx]; omega), new_ne (by simp only [new_nx]; omega), new_ne (by simp only [new_nx]; omega)]
  exact new_get.trans (if_pos rfl)
theorem prK_3 {H : CH} {sl : Sl} : (prK H sl).ob (H.nx + 1) = .cells [.int .i64 0] 3 .ex := by
  unfold prK
  rw [new_ne (by simp only [new_nx]; omega), new_ne (by simp only [new_nx]; omega)]
  exact new_get.trans (if_pos rfl)
theorem prK_4 {H : CH} {sl : Sl} : (prK H sl).ob (H.nx + 2) = .cells [.int .i64 0] 29 .ex := by
  unfold prK
  rw [new_ne (by simp only [new_nx]; omega)]
  exact new_get.trans (if_pos rfl)
def PrQ2 (H : CH) (ts : List PT) (v : Value) (H' : CH) : Prop := ∃ vs, v = tupleV vs ∧ PrO H (parseT ts).1 (parseT ts).2.1 (parseT ts).2.2 vs H' ∧ TyV vs H'
def PrQ (H : CH) (ts : List PT) (v : Value) (H' : CH) : Prop := ∃ vs, v = tupleV vs ∧ PrO H (parseT ts).1 (parseT ts).2.1 (parseT ts).2.2 vs H'
theorem top_gd {ts : List PT} : Gd (fun e => gr ts (ts.length * 64 + 100) (.top []) 0 = some (.error e)) (fun l j => gr ts (ts.length * 64 + 100) (.top []) 0 = some (.ok (l, j)) ∧ htL l + 1 ≤ 64 * ts.length + 2) (gr ts (ts.length * 64 + 100) (.top []) 0) := by
  have h1 := gr_gd (ts := ts) (ts.length * 64 + 100) (.top []) 0 trivial (Nat.zero_le _) (by simp only [NT.rank]; omega)
  have h2 := gr_ht (ts := ts) (ts.length * 64 + 100) (.top []) 0 trivial (Nat.zero_le _) (by simp only [NT.rank]; omega)
  match h : gr ts (ts.length * 64 + 100) (.top []) 0, h1, h2 with
  | some (.error e), _, _ => exact rfl
  | some (.ok (l, j)), h1, h2 =>
    refine ⟨rfl, ?_⟩
    have h3 : szL l + 64 * 0 + 0 ≤ 0 + 64 * j + 0 := h2
    have h4 := h1.2.1
    have h5 := ht_szL l
    omega
theorem cS_inv {K : CH} {E : TE} {v w : Value} (h : CVR K E (cS v) w) : w = v := by
  cases h with
  | s h => cases h; rfl
theorem own_row {K : CH} {E : TE} {A : Nat → Prop} {t sz : Nat} {e : TypeId} {gs : List (List SV)} {w : Value} (h : CVR K E (.own t e sz gs) w) (h1 : ∀ b, Frz K E b → A b) (h2 : ∀ b, E.σ t = some b → A b) : SVR K A (.row sz gs) w := by
  cases h with
  | own0 => exact .row0
  | own hne hb ho hk hg hs => exact .row hne (h2 _ hb) ho hk hg (hs.mv fun b hb => ⟨h1 b hb, rfl⟩)
theorem parse_call {H : CH} {sl : Sl} {ts : List PT} (h : SlAt 3 CTk H sl.q sl.c ts) (hn : sl.n = ts.length) (hlen : ts.length ≤ 4398046510976) : ∃ v H', PrQ2 H ts v H' ∧ ∀ B, CallC Try.prog B 8 [.slice sl.q sl.n sl.c] H v H' := by
  refine guard_calls (T := (tblG Try.prog LG GG)) (X := pX) (G := gdG) (g := 14) (d := 10) (x1 := 2) (x2 := 3) (x3 := 4) (fun B => tg_ok) (fun B f args H v H' => fail_ok) (fn_ok (by kernel_rfl)) pr_body (by rfl) (by kernel_rfl) (Nat.lt_of_lt_of_eq (by decide : 10 < 37) (by kernel_rfl : 37 = (rF Try.prog 8).ntmps)) gd_ret (fun B => gd_pan) ?_
  refine (pr_r0 (sl := sl) rfl).mono fun x fr1 H1 ⟨hx, hw⟩ => ⟨hx, hw.mono fun x fr2 H2 ⟨hx, c2, c3, c4, c5, e⟩ => ⟨hx, ?_⟩⟩
  subst e
  have C := pctx (prZ_ok h hn) hlen
  have hc : ∀ t, t ≠ 10 → putF fr2 (some 10) undef t = fr2 t := fun t ht => if_neg ht
  have t0 := pr_start (cfr := putF fr2 (some 10) undef) h ((hc 2 (by decide)).trans c2) ((hc 3 (by decide)).trans c3) ((hc 4 (by decide)).trans c4) ((hc 5 (by decide)).trans c5)
  let Rp : Value → Prop := fun v => ∃ e, gr ts (ts.length * 64 + 100) (.top []) 0 = some (.error e) ∧ v = wrV (nowT ts e).line
  have hpan : ∀ v K3, PX (prK H sl) (some (H.nx + 3)) Rp v K3 → ∃ H4, gdG [fr2 2, fr2 3, fr2 4] v K3 H4 ∧ ∃ vs, resL (mskF (.seq prP.2.2.1 (.seq prP.2.2.2.1 prP.2.2.2.2)) (putF fr2 (some 10) undef)) H4 (rF Try.prog 8).res = some vs ∧ PrQ2 H ts (tupleV vs) H4 := by
    rintro v K3 ⟨g1, g2, e, hg, rfl⟩
    rw [prK_nx] at g1 g2
    have o2 := (g2 H.nx (by omega) (fun e => by injection e; omega)).trans prK_2
    have o3 := (g2 (H.nx + 1) (by omega) (fun e => by injection e; omega)).trans prK_3
    have o4 := (g2 (H.nx + 2) (by omega) (fun e => by injection e; omega)).trans prK_4
    rw [c2, c3, c4]
    refine ⟨_, gd_eval o2 o3 o4 g1, ?_⟩
    have hH3 : HExt H K3 := ⟨by omega, fun b hb => (g2 b (by omega) (fun e => by injection e; omega)).trans (prK_old hb)⟩
    have hm : ∀ t, t ≠ 10 → (wrR (.seq prP.2.2.1 (.seq prP.2.2.2.1 prP.2.2.2.2))).elem t = false → mskF (.seq prP.2.2.1 (.seq prP.2.2.2.1 prP.2.2.2.2)) (putF fr2 (some 10) undef) t = fr2 t := fun t ht hw => by
      unfold mskF
      rw [hw]
      exact hc t ht
    have m2 := (hm 2 (by decide) (by kernel_rfl)).trans c2
    have m3 := (hm 3 (by decide) (by kernel_rfl)).trans c3
    have m4 := (hm 4 (by decide) (by kernel_rfl)).trans c4
    rw [pr_res]
    unfold gdH
    have hn0 : H.nx ≠ K3.nx := by omega
    have hn1 : H.nx + 1 ≠ K3.nx := by omega
    have hn2 : H.nx + 2 ≠ K3.nx := by omega
    repeat' (first | (simp (disch := first | omega | (decide +kernel) | (repeat first | assumption | exact HExt.refl _ | refine HExt.set ?_ (by first | omega | (simp only [new_nx, set_nx]; omega)) _ | refine HExt.new ?_ _)) only [↓RD, RU, accW_t, accW_f, isW, ↓putF_get, ↓putF_none, ↓evF_t, ↓evF_c, ↓evF_f, new_nx, set_nx, new_get, set_get, getD_zero, getD_succ, u_not, pop, lop, aop, wop, resL, resV, tupleV, akV, isVal, isCell, Value.cells, ρ0, ρ1, ρ2, ρ3, ρ4, ↓reduceIte, Nat.reduceEqDiff, Nat.reduceAdd, Int.reduceOfNat, Int.reduceNegSucc, reduceCtorEq, ρ5, ρ6, ρ7, ρ8, srcR_c, src_n, src_v, src_s, bnd, lenV, capV, ρ9, ρ10, ρ11, ρ12, ρ13, ρ14, ρ15, ρ16, ρ17, ρ18, ρ19, ρ20, ρ21, ρ22, ρ23, ρ24, Kd.isRo, ρ25, ρ26, bldV, Nat.reduceLeDiff, Int.reduceMul, Int.reduceAdd, Int.reduceSub, Int.reduceToNat, maxLen_eq, zeros_one, appS_some, appV_n, appV_v, appH_t, appH_f, Kd.isEx, ρ27, partV, CH.set_set, lkV, lkR, isKey, mupV, nxtV, ρ28, ρ29, m2, m3, m4, o2, o3, o4, hn0, hn1, hn2]) | (with_reducible first | refine condK_dec (fun _ => ?_) fun _ => ?_ | refine grd_dec (fun _ => ?_) fun _ => ?_ | refine egrd_dec (fun _ => ?_) fun _ => ?_))
    refine ⟨_, rfl, [_, _, _], rfl, ?_⟩
    have ht : parseT ts = (zNd, (nowT ts e).line, 22) := by unfold parseT; rw [hg]
    rw [ht]
    refine ⟨⟨((((hH3.new _).set (by omega) _).set (Nat.le_refl _) _).set (by omega) _).set (by omega) _, _, rfl, .cons (.sc rfl) (.cons (.sc rfl) (.cons (.sc rfl) (.cons (.sc rfl) (.cons .row0 .nil))))⟩, ?_⟩
    intro a0 a1 a2 a3 b n c r e
    simp at e
  refine wxR_seq ((twR_sound dt_ok t0 (pr_t3 (R := Rp) C)).mono ?_ hpan)
  rintro x cfr3 K3 ⟨fr3, st3, E3, t1, s1, rfl, ⟨nt, u, rfl⟩, g2, g3, g4, g5, g6⟩
  have t1' : TR (prZ H sl) (prK H sl) (some (H.nx + 3)) K3 ⟨nt, [(u, 43, (oR sl 0).2.2), (u, 28, nC 1 (nowT ts 0).line [] 0 (.s (.row 5 [])))]⟩ (prG H) cfr3 E3 := by
    refine { t1 with frm := fun t => ?_ }
    match t with
    | 0 => exact .bad
    | 1 => exact .bad
    | 2 => have := t1.frm 2; rw [g2] at this; exact this
    | 3 => have := t1.frm 3; rw [g3] at this; exact this
    | 4 => have := t1.frm 4; rw [g4] at this; exact this
    | 5 => have := t1.frm 5; rw [g5] at this; exact this
    | 6 => have := t1.frm 6; rw [g6] at this; exact this
    | n + 7 => exact .bad
  show WxR (tblG Try.prog LG GG) pX (.seq prP.2.2.2.1 prP.2.2.2.2) cfr3 K3 _ _
  refine wxR_seq ((twR_sound dt_ok t1' (pr_tL C (fun m _ => pall C m) top_gd fun e he => ⟨e, he, rfl⟩)).mono ?_ hpan)
  rintro x cfr4 K4 ⟨fr4, st4, E4, t2, s2, rfl, ⟨l, j, nt2, u1, u2, c, ⟨hgr, hht⟩, hacc, rfl⟩, g2, g3, g4, g6⟩
  have hp : ∀ t l, fr4 t = rS (pP l) → cfr4 t = pP l := fun t l e => by
    have := t2.frm t
    rw [e] at this
    exact raw_rel this rfl
  have hhid : E4.hid = fun b => b < H.nx + 4 ∧ b ≠ H.nx + 3 := s2.hid.trans s1.hid
  have hr0 : E4.ρ 0 = some (H.nx + 3) := s2.rho _ _ (s1.rho _ _ rfl)
  obtain ⟨b, os, hb1, hb2, hb3⟩ := t2.obs 1 _ _ _ rfl
  have h6 : cfr4 6 = pP b := by
    have := t2.frm 6
    rw [g6] at this
    obtain ⟨b', q1, q2⟩ := this.ptr_inv
    rw [hb1] at q1; cases q1
    exact q2
  obtain ⟨hbn, hbk, _⟩ := t2.rho 1 b hb1
  have hne3 : b ≠ H.nx + 3 := fun e => by
    have := t2.rinj 0 1 b (by rw [hr0, e]) hb1
    cases this
  have hb4 : H.nx + 4 ≤ b := by
    rcases hbk with q | q
    · rw [prK_nx] at q; exact q
    · injection q with q; exact absurd q.symm hne3
  have hnx := t2.nx
  rw [prK_nx] at hnx
  have hfz : ∀ b, Frz K4 E4 b → H.nx + 4 ≤ b ∧ b < K4.nx := fun b ⟨f1, f2, f3, f4⟩ => by
    rw [hhid] at f2
    have : b ≠ H.nx + 3 := fun e => f4 0 (by rw [hr0, e])
    exact ⟨by omega, f1⟩
  have hkeep : ∀ b, b < H.nx + 3 → K4.ob b = (prK H sl).ob b := fun b hb => t2.keep b (by rw [prK_nx]; omega) (fun e => by injection e; omega)
  have hw : ∀ w, CVR K4 E4 c w → SVR K4 (fun b => H.nx + 4 ≤ b ∧ b < K4.nx) (.row 5 (ndsS l)) w := fun w hc => by
    rcases hacc with ⟨rfl, rfl⟩ | ⟨t, rfl⟩
    · cases hc with
      | s h => exact h.mv fun b hb => ⟨hfz b hb, rfl⟩
    · exact own_row hc hfz fun b hb => ⟨by have := (t2.sig t b hb).1; rw [prK_nx] at this; exact this, (t2.sig t b hb).2.1⟩
  have hty : ∀ w, CVR K4 E4 c w → ∀ b n c', w = .slice (some ⟨b, 0, none⟩) n c' → b < K4.nx ∧ H.nx + 4 ≤ b ∧ ∃ cs kd, K4.ob b = .cells cs 28 kd := fun w hc b n c' ew => by
    subst ew
    rcases hacc with ⟨rfl, rfl⟩ | ⟨t, rfl⟩
    · cases hc with
      | s h => cases h with | row hne _ _ _ _ _ => exact absurd rfl hne.1
    · generalize ndsS l = gs at hc
      cases hc with
      | own hne hb ho hk hg hs => exact ⟨(t2.sig t b hb).2.1, by have := (t2.sig t b hb).1; rw [prK_nx] at this; exact this, _, _, ho⟩
  cases hb3 with | cons a1 hb3 =>
  cases hb3 with | cons a2 hb3 =>
  cases hb3 with | cons a3 hb3 =>
  cases hb3 with | cons a4 hb3 =>
  cases hb3 with | cons a5 hb3 =>
  cases hb3
  have e1 := cS_inv a1
  have e2 := cS_inv a2
  have e3 := cS_inv a3
  have e4 := cS_inv a4
  subst e1 e2 e3 e4
  refine .inl ((pr_rest (H := H) (hp 2 _ g2) (hp 3 _ g3) (hp 4 _ g4) h6 ((hkeep _ (by omega)).trans prK_2) ((hkeep _ (by omega)).trans prK_3) ((hkeep _ (by omega)).trans prK_4) hb2 hnx hbn hb4 (hw _ a5) (by omega) (fun b hb => (hkeep b (by omega)).trans (prK_old hb)) (hty _ a5)).mono fun x fr' K' ⟨q1, vs, q2, q3, q4⟩ => ⟨.inr q1, vs, ?_, vs, rfl, ?_, q4⟩)
  · rw [pr_res]; exact q2
  · have ht : parseT ts = if 60 < htL l + 1 then (zNd, 0, 11) else (nd 1 (hdLine (nowT ts 0).line l) l, 0, 0) := by unfold parseT; rw [hgr]
    rw [ht]
    by_cases h60 : 60 < htL l + 1
    · rw [if_pos h60, if_pos h60] at q3
      rw [if_pos h60]
      exact q3
    · rw [if_neg h60, if_neg h60] at q3
      rw [if_neg h60]
      exact q3
end Can
end Go.Proofs.Ytnkfdkfmdeibfaa
end
section
namespace Go.Proofs.Ytnkfdkfmdeibfaa
namespace Can
open Go Go.RowKit
set_option linter.unusedSimpArgs false
set_option linter.unusedVariables false
set_option maxRecDepth 4000
noncomputable def runM (n : Nat) (f : FuncId) (args : List Value) (H : CH) : Option (Value × CH) :=
  (evHc LG GG (resFunc Try.prog (fun N ops => resD Try.prog N ops)) (resLoop Try.prog (fun N ops => resD Try.prog N ops)) n).call f args H
theorem wpF_runM {n : Nat} {f : FuncId} {args : List Value} {H : CH} {r : Value × CH} (h : runM n f args H = some r) : WpF (tblG Try.prog LG GG) f args H fun v K => v = r.1 ∧ K = r.2 :=
  ⟨n, r.1, r.2, (evHc_ok (T := tblG Try.prog LG GG) (fun _ => rfl) (fun _ _ _ => rfl) n).call _ _ _ _ h, rfl, rfl⟩
def bsV (l : List UInt8) : List Value := l.map fun b => .int .u8 b.toNat
def src1 : List UInt8 := [97, 32, 61, 32, 98, 44, 32, 49]
def src2 : List UInt8 := [98, 10, 49, 32, 61, 32, 97]
noncomputable def lexR (l : List UInt8) : Option (Value × CH) := runM 200 19 [.slice (some ⟨0, 0, none⟩) l.length l.length] (noH.new (.cells (bsV l) 5 .ex))
def toks1 : List PT := [⟨4, 1, [97]⟩, ⟨9, 1, [61]⟩, ⟨4, 1, [98]⟩, ⟨9, 1, [44]⟩, ⟨5, 1, [49]⟩, ⟨1, 1, []⟩, ⟨0, 1, []⟩]
def toks2 : List PT := [⟨4, 1, [98]⟩, ⟨1, 1, []⟩, ⟨5, 2, [49]⟩, ⟨9, 2, [61]⟩, ⟨4, 2, [97]⟩, ⟨1, 2, []⟩, ⟨0, 2, []⟩]
def slL : Value → Nat
  | .tuple #[.slice (some ⟨l, 0, none⟩) m c, _, _] => l
  | _ => 0
noncomputable def lexL (l : List UInt8) : Nat := ((lexR l).map fun r => slL r.1).getD 0
theorem lex1 : (lexR src1).map (fun r => (r.1, r.2.ob 0, r.2.ob (slL r.1), Nat.beq (slL r.1) 0)) = some (.tuple #[.slice (some ⟨lexL src1, 0, none⟩) 7 7, .int .i64 0, .int .i64 0], .cells (bsV src1) 5 .ex, .cells ((toks1.map tokV).flatten) 25 .gr, false) := by kernel_rfl
theorem lex2 : (lexR src2).map (fun r => (r.1, r.2.ob 0, r.2.ob (slL r.1), Nat.beq (slL r.1) 0)) = some (.tuple #[.slice (some ⟨lexL src2, 0, none⟩) 7 7, .int .i64 0, .int .i64 0], .cells (bsV src2) 5 .ex, .cells ((toks2.map tokV).flatten) 25 .gr, false) := by kernel_rfl
theorem lex_call {src : List UInt8} {ts : List PT} {m c : Nat} (h : (lexR src).map (fun r => (r.1, r.2.ob 0, r.2.ob (slL r.1), Nat.beq (slL r.1) 0)) = some (.tuple #[.slice (some ⟨lexL src, 0, none⟩) m c, .int .i64 0, .int .i64 0], .cells (bsV src) 5 .ex, .cells ((ts.map tokV).flatten) 25 .gr, false)) {H : CH} {p : Nat} (hp : H.ob p = .cells (bsV src) 5 .ex) :
    ∀ B, CallC Try.prog B 19 [.slice (some ⟨p, 0, none⟩) src.length src.length] H (.tuple #[.slice (some ⟨H.nx, 0, none⟩) m c, .int .i64 0, .int .i64 0]) (H.new (.cells ((ts.map tokV).flatten) 25 .gr)) := by
  cases hr : lexR src with
  | none => rw [hr] at h; cases h
  | some r =>
    rw [hr] at h
    simp only [Option.map_some, Option.some.injEq, Prod.mk.injEq] at h
    obtain ⟨h1, h2, h3, h4⟩ := h
    have hl : slL r.1 = lexL src := by rw [h1]; rfl
    rw [hl] at h3 h4
    have h0 : lexL src ≠ 0 := fun e => by rw [e] at h4; cases h4
    refine call_frame (l := lexL src) (H1 := r.2) ?_ ?_ rfl rfl (fun B => ?_) h2 h3 h0 (by simp) hp
    · simp [closedC, bsV, closedV]
    · simp only [closedC, List.all_eq_true]
      intro v hv
      obtain ⟨l, hl, hv⟩ := List.mem_flatten.1 hv
      obtain ⟨t, _, rfl⟩ := List.mem_map.1 hl
      simp only [tokV, List.mem_cons, List.not_mem_nil, or_false] at hv
      rcases hv with rfl | rfl | rfl <;> rfl
    · obtain ⟨v, K, ⟨e1, e2⟩, hc⟩ := tell_wp (T := (tblG Try.prog LG GG)) (fun B => tg_ok) (by kernel_rfl) (wpF_runM hr)
      have := hc B
      rw [e1, h1, e2] at this
      exact this
end Can
end Go.Proofs.Ytnkfdkfmdeibfaa
end
section
namespace Go.Proofs.Ytnkfdkfmdeibfaa
namespace Can
open Go Go.RowKit
set_option linter.unusedSimpArgs false
set_option linter.unusedVariables false
set_option maxRecDepth 4000
mutual
/-- The same trees (lines too). -/
def sameN (ln : Bool) : Nd → Nd → Bool
  | .mk k l x o ks, .mk k' l' x' o' ks' => decide (k = k') && decide (x = x') && decide (o = o') && decide (ks.length = ks'.length) && (!ln || decide (l = l')) && sameL ln ks ks'
def sameL (ln : Bool) : List Nd → List Nd → Bool
  | n :: ks, n' :: ks' => sameN ln n n' && sameL ln ks ks'
  | _, _ => true
end
def LexV (src : List UInt8) (ts : List PT) (args : List Value) (H : CH) (v : Value) (H' : CH) : Prop := ∀ p, args = [.slice (some ⟨p, 0, none⟩) src.length src.length] → H.ob p = .cells (bsV src) 5 .ex → v = .tuple #[.slice (some ⟨H.nx, 0, none⟩) 7 7, .int .i64 0, .int .i64 0] ∧ H' = H.new (.cells ((ts.map tokV).flatten) 25 .gr)
def SP : Spec := fun f args H v H' => (f = 8 → ∀ (sl : Sl) (ts : List PT), args = [.slice sl.q sl.n sl.c] → SlAt 3 CTk H sl.q sl.c ts → sl.n = ts.length → ts.length ≤ 4398046510976 → PrQ2 H ts v H') ∧ (f = 19 → LexV src1 toks1 args H v H' ∧ LexV src2 toks2 args H v H')
noncomputable abbrev TL : Tbl := tblS Try.prog LG GG [8, 19] SP
theorem tl_ok {B : Nat} : TblOk Try.prog B TL := tblS_ok GG_ok
theorem tok_inj {a b : PT} (h : tokV a = tokV b) : a = b := by
  cases a; cases b
  simp only [tokV, List.cons.injEq, Value.int.injEq, Value.string.injEq, true_and, and_true] at h
  obtain ⟨rfl, rfl, h⟩ := h
  injection h with h
  injection h with h
  subst h; rfl
theorem slat_inj {H : CH} {q : Option Addr} {c : Nat} {ts us : List PT} (h : SlAt 3 CTk H q c ts) (g : SlAt 3 CTk H q c us) (hl : ts.length = us.length) : ts = us := by
  refine List.ext_getElem hl fun i h1 h2 => ?_
  obtain ⟨l, o, os, e, kd, q1, o1, _, _, r1, _⟩ := tk_get h h1
  obtain ⟨l', o', os', e', kd', q2, o2, _, _, r2, _⟩ := tk_get g h2
  rw [q1] at q2; cases q2
  rw [o1] at o2; cases o2
  exact tok_inj (r1.symm.trans r2)
theorem parse_wp2 {H : CH} {sl : Sl} {ts : List PT} (h : SlAt 3 CTk H sl.q sl.c ts) (hn : sl.n = ts.length) (hlen : ts.length ≤ 4398046510976) : WpF TL 8 [.slice sl.q sl.n sl.c] H fun v H' => PrQ2 H ts v H' := by
  obtain ⟨v, H', h1, h2⟩ := parse_call h hn hlen
  refine wpF_tell rfl ⟨v, H', ⟨fun _ sl' ts' he h' hn' _ => ?_, fun e => by cases e⟩, h2⟩ fun v H' hS => hS.1 rfl sl ts rfl h hn hlen
  cases sl; cases sl'
  cases he
  rw [slat_inj h' h (hn'.symm.trans hn)]
  exact h1
theorem parse_wp {H : CH} {sl : Sl} {ts : List PT} (h : SlAt 3 CTk H sl.q sl.c ts) (hn : sl.n = ts.length) (hlen : ts.length ≤ 4398046510976) : WpF TL 8 [.slice sl.q sl.n sl.c] H fun v H' => PrQ H ts v H' :=
  (parse_wp2 h hn hlen).mono fun v H' ⟨vs, h1, h2, _⟩ => ⟨vs, h1, h2⟩
theorem lex1_wp {H : CH} {p : Nat} (hp : H.ob p = .cells (bsV src1) 5 .ex) : WpF TL 19 [.slice (some ⟨p, 0, none⟩) 8 8] H fun v H' => v = .tuple #[.slice (some ⟨H.nx, 0, none⟩) 7 7, .int .i64 0, .int .i64 0] ∧ H' = H.new (.cells ((toks1.map tokV).flatten) 25 .gr) := by
  refine wpF_tell rfl ⟨_, _, ⟨fun e => (by cases e), fun _ => ⟨fun p' he hp' => ⟨rfl, rfl⟩, fun p' he hp' => ?_⟩⟩, lex_call lex1 hp⟩ fun v H' hS => (hS.2 rfl).1 p rfl hp
  cases he
theorem lex2_wp {H : CH} {p : Nat} (hp : H.ob p = .cells (bsV src2) 5 .ex) : WpF TL 19 [.slice (some ⟨p, 0, none⟩) 7 7] H fun v H' => v = .tuple #[.slice (some ⟨H.nx, 0, none⟩) 7 7, .int .i64 0, .int .i64 0] ∧ H' = H.new (.cells ((toks2.map tokV).flatten) 25 .gr) := by
  refine wpF_tell rfl ⟨_, _, ⟨fun e => (by cases e), fun _ => ⟨fun p' he hp' => ?_, fun p' he hp' => ⟨rfl, rfl⟩⟩⟩, lex_call lex2 hp⟩ fun v H' hS => (hS.2 rfl).2 p rfl hp
  cases he
theorem tc_rS {D : TD} {Z : TP} {X : Pan} (hD : TDOk TL D) {R : Value → Prop} {f : Nat} (he : TL.ext f = false) (h : (resFunc Try.prog (fun N ops => resD Try.prog N ops) f).isSome = true) {args : List AV} {self : Self} {Q : AV → List SV → Prop} (k : twR Z TL X D R (rF Try.prog f).body (fun t => args.getD t .bad) (st0 self) (finT (rF Try.prog f).res self Q)) : TC Z TL X f args self Q R :=
  tc_in hD he (tbS_fn h) k
def D0 : TD := ⟨[]⟩
theorem d0_ok : TDOk TL D0 := ⟨fun f hf => by cases hf⟩
theorem sameL_drop {ln : Bool} {ks ks' : List Nd} {i : Nat} {t t' : Nd} (h : ks[i]? = some t) (h' : ks'[i]? = some t') : sameL ln (ks.drop i) (ks'.drop i) = (sameN ln t t' && sameL ln (ks.drop (i + 1)) (ks'.drop (i + 1))) := by
  obtain ⟨hi, rfl⟩ := List.getElem?_eq_some_iff.1 h
  obtain ⟨hi', rfl⟩ := List.getElem?_eq_some_iff.1 h'
  rw [List.drop_eq_getElem_cons hi, List.drop_eq_getElem_cons hi']
  rfl
section
variable {Z : TP} {X : Pan}
attribute [local irreducible] TC
theorem same_tc (ln : Bool) : ∀ (N : Nat) (k : Nat) (l : Int) (x : List UInt8) (o : Nat) (ks : List Nd) (k' : Nat) (l' : Int) (x' : List UInt8) (o' : Nat) (ks' : List Nd), nsz (.mk k l x o ks) < N → ∀ (Q : AV → List SV → Prop) (R : Value → Prop), Q (rS (.bool (sameN ln (.mk k l x o ks) (.mk k' l' x' o' ks')))) [] → TC Z TL X 9 [ndA (.mk k l x o ks), ndA (.mk k' l' x' o' ks'), rS (.bool ln)] none Q R := by
  intro N
  induction N with
  | zero => intro k l x o ks k' l' x' o' ks' h; exact absurd h (Nat.not_lt_zero _)
  | succ N ih =>
  intro k l x o ks k' l' x' o' ks' hN Q R hQ
  refine tc_rS d0_ok (by rfl) (by kernel_rfl) ?_
  conv in (rF _ _).body => reduce
  conv in (rF _ _).res => reduce
  conv => whnf
  have hf : sameN ln (.mk k l x o ks) (.mk k' l' x' o' ks') = (decide (k = k') && decide (x = x') && decide (o = o') && decide (ks.length = ks'.length) && (!ln || decide (l = l')) && sameL ln ks ks') := rfl
  rw [hf] at hQ
  generalize h1 : ((k : Int) != (k' : Int)) = b1
  cases b1
  case true =>
    have : k ≠ k' := by have h : ¬ (k : Int) = (k' : Int) := (by simpa using h1); omega
    rw [decide_eq_false this] at hQ
    conv => whnf
    exact hQ
  have e1 : k = k' := by have h : (k : Int) = (k' : Int) := (by simpa using h1); omega
  conv => whnf
  generalize h2 : (!((pS x).toList == (pS x').toList)) = b2
  have pse : ∀ a b : List UInt8, ((pS a).toList == (pS b).toList) = decide (a = b) := fun a b => by
    have h : ∀ l : List UInt8, (pS l).toList = l := fun l => by simp [ByteArray.toList_eq]
    rw [h, h]
    by_cases e : a = b
    · simp [e]
    · rw [decide_eq_false e]; simpa using e
  rw [pse] at h2
  cases b2
  case true =>
    have : x ≠ x' := by simpa using h2
    rw [decide_eq_true e1, decide_eq_false this] at hQ
    conv => whnf
    exact hQ
  have e2 : x = x' := by simpa using h2
  conv => whnf
  generalize h3 : ((o : Int) != (o' : Int)) = b3
  cases b3
  case true =>
    have : o ≠ o' := by have h : ¬ (o : Int) = (o' : Int) := (by simpa using h3); omega
    rw [decide_eq_true e1, decide_eq_true e2, decide_eq_false this] at hQ
    conv => whnf
    exact hQ
  have e3 : o = o' := by have h : (o : Int) = (o' : Int) := (by simpa using h3); omega
  conv => whnf
  intro hm1
  conv => whnf
  intro hm2
  conv => whnf
  generalize h4 : (((ndsS ks).length : Int) != ((ndsS ks').length : Int)) = b4
  rw [ndsS_len, ndsS_len] at h4
  cases b4
  case true =>
    have : ks.length ≠ ks'.length := by have h : ¬ (ks.length : Int) = (ks'.length : Int) := (by simpa using h4); omega
    rw [decide_eq_true e1, decide_eq_true e2, decide_eq_true e3, decide_eq_false this] at hQ
    conv => whnf
    exact hQ
  have e4 : ks.length = ks'.length := by have h : (ks.length : Int) = (ks'.length : Int) := (by simpa using h4); omega
  rw [decide_eq_true e1, decide_eq_true e2, decide_eq_true e3, decide_eq_true e4] at hQ
  have hb : l ≠ l' ∧ ln = true ∨ (!ln || decide (l = l')) = true := by
    cases ln
    · exact .inr rfl
    · by_cases h : l = l'
      · exact .inr (by simp [h])
      · exact .inl ⟨h, rfl⟩
  rcases hb with ⟨hb, rfl⟩ | hb
  · rw [decide_eq_false hb] at hQ
    conv => whnf
    generalize h5 : (l != l') = b5
    cases b5
    case false => exact absurd (by simpa using h5) hb
    conv => whnf
    exact hQ
  rw [hb] at hQ
  simp only [Bool.true_and] at hQ
  obtain ⟨SL, hSL⟩ : ∃ SL : List Nd → List Nd → Bool, SL = sameL ln := ⟨_, rfl⟩
  obtain ⟨SN, hSN⟩ : ∃ SN : Nd → Nd → Bool, SN = sameN ln := ⟨_, rfl⟩
  have hnil : ∀ ys, SL [] ys = true := fun ys => by rw [hSL]; rfl
  have hdr : ∀ (i : Nat) (t t' : Nd), ks[i]? = some t → ks'[i]? = some t' → SL (ks.drop i) (ks'.drop i) = (SN t t' && SL (ks.drop (i + 1)) (ks'.drop (i + 1))) := fun i t t' h h' => by rw [hSL, hSN]; exact sameL_drop h h'
  rw [← hSL] at hQ
  cases ln
  rotate_left
  conv => whnf
  generalize h5 : (l != l') = b5
  cases b5
  rotate_left
  exact absurd (by simpa using hb) (by simpa using h5)
  all_goals
    conv => whnf
    refine loop_1 7 (fun m a s => ∃ i : Nat, a = rS (.int .i64 (i : Nat)) ∧ s = ⟨0, [oN (nA k l x o ks), oN (nA k' l' x' o' ks')]⟩ ∧ m + i = ks.length ∧ SL ks ks' = SL (ks.drop i) (ks'.drop i)) ks.length [] rfl ⟨0, rfl, rfl, rfl, rfl⟩ ?_
    rintro m a f s ⟨i, rfl, rfl, hm, hp⟩
    conv => whnf
    intro hmx
    conv => whnf
    refine ifT_c (fun hc => ?_) fun hc => ?_
    · have hi : i < ks.length := by simp [ndsS_len] at hc; omega
      obtain ⟨t, ht⟩ : ∃ t, ks[i]? = some t := ⟨_, List.getElem?_eq_getElem hi⟩
      obtain ⟨t', ht'⟩ : ∃ t, ks'[i]? = some t := ⟨_, List.getElem?_eq_getElem (by omega)⟩
      rw [hdr i t t' ht ht'] at hp
      have hlt := nsz_lt (List.mem_of_getElem? ht) (k := k) (l := l) (x := x) (o := o)
      obtain ⟨k1, l1, x1, o1, ks1⟩ := t
      obtain ⟨k2, l2, x2, o2, ks2⟩ := t'
      conv => whnf
      refine ⟨rfl, i, _, rfl, ndsS_get ht, ?_⟩
      conv => whnf
      refine ⟨rfl, i, _, rfl, ndsS_get ht', ?_⟩
      conv => whnf
      refine ih k1 l1 x1 o1 ks1 k2 l2 x2 o2 ks2 (by omega) _ _ ?_
      conv => whnf
      rw [← hSN]
      generalize hsm : SN (Nd.mk k1 l1 x1 o1 ks1) (Nd.mk k2 l2 x2 o2 ks2) = bs at hp ⊢
      cases bs
      · rw [Bool.false_and] at hp
        rw [hp] at hQ
        conv => whnf
        exact hQ
      · rw [Bool.true_and] at hp
        rw [ndsS_len] at hmx
        conv => whnf
        exact ⟨m - 1, [], by omega, rfl, i + 1, congrArg (fun n => rS (.int .i64 n)) (wr_inc' hi hmx), rfl, by omega, hp⟩
    · have hi : i = ks.length := by simp [ndsS_len] at hc; omega
      subst hi
      have hp : SL ks ks' = true := by rw [hp, List.drop_length]; exact hnil _
      rw [hp] at hQ
      conv => whnf
      exact hQ
end
end Can
end Go.Proofs.Ytnkfdkfmdeibfaa
end
section
namespace Go.Proofs.Ytnkfdkfmdeibfaa
namespace Can
open Go Go.RowKit
set_option linter.unusedSimpArgs false
set_option linter.unusedVariables false
set_option maxRecDepth 4000
def tree1 : Nd := nd 1 1 [nd 3 1 [.mk 36 1 [97] 0 [], nd 52 1 [.mk 36 1 [98] 0 [], .mk 30 1 [49] 0 []]]]
theorem parse1 : parseT toks1 = (tree1, 0, 0) := by kernel_rfl
theorem parse2 : parseT toks2 = (zNd, 2, 22) := by kernel_rfl
theorem slat_row {K : CH} {b : Nat} {ts : List PT} {e : TypeId} {k : Kd} (hb : b < K.nx) (ho : K.ob b = .cells ((ts.map tokV).flatten) e k) (hl : ts.length ≤ maxLen) : SlAt 3 CTk K (some ⟨b, 0, none⟩) ts.length ts := by
  have hfl : ((ts.map tokV).flatten).length = ts.length * 3 := by
    rw [flat_len' (sz := 3) (fun g hg => by obtain ⟨t, _, rfl⟩ := List.mem_map.1 hg; rfl), List.length_map]
  refine .inr ⟨b, 0, _, e, k, rfl, hb, Nat.le_refl _, hl, ho, by omega, fun i h => ?_⟩
  have hg : (ts.map tokV)[i]? = some (tokV ts[i]) := by simp [h]
  have := (flat_grp (sz := 3) (gs := ts.map tokV) (fun g hg => by obtain ⟨t, _, rfl⟩ := List.mem_map.1 hg; rfl) hg).1
  show ((((ts.map tokV).flatten).drop (0 + i * 3)).take 3) = tokV ts[i]
  rw [Nat.zero_add]
  exact this
theorem nd_cells {K : CH} {A : Nat → Prop} {t : Nd} {os : List Value} (h : SVRs K A (ndS t) os) : ∃ k l x o wa wn wc, os = [.int .i64 k, .int .i64 l, .string x, .int .i64 o, .slice wa wn wc] := by
  cases t
  cases h with | cons a1 h =>
  cases h with | cons a2 h =>
  cases h with | cons a3 h =>
  cases h with | cons a4 h =>
  cases h with | cons a5 h =>
  cases h
  cases a1
  cases a2
  cases a3
  cases a4
  obtain ⟨wa, wn, wc, rfl⟩ := row_slc a5
  exact ⟨_, _, _, _, _, _, _, rfl⟩
theorem source_wp {H : CH} {q : Option Addr} {n c : Nat} {ts : List PT} (hl : ts.length ≤ 4398046510976) (hlen : ts.length = 7) (hx : ∀ K, HExt H K → WpF TL 19 [.slice q n c] K fun v H' => v = .tuple #[.slice (some ⟨K.nx, 0, none⟩) 7 7, .int .i64 0, .int .i64 0] ∧ H' = K.new (.cells ((ts.map tokV).flatten) 25 .gr)) :
    WpF TL 10 [.slice q n c] H fun v K => PrQ H ts v K := by
  refine wpF_rS (by rfl) (by kernel_rfl) ?_
  conv in (rF _ _).body => reduce
  conv in (rF _ _).res => reduce
  repeat' (first | (simp (disch := first | omega | (decide +kernel) | (repeat first | assumption | exact HExt.refl _ | refine HExt.set ?_ (by first | omega | (simp only [new_nx, set_nx]; omega)) _ | refine HExt.new ?_ _)) only [↓RD, RU, accW_t, accW_f, isW, ↓putF_get, ↓putF_none, ↓evF_t, ↓evF_c, ↓evF_f, new_nx, set_nx, new_get, set_get, getD_zero, getD_succ, u_not, pop, lop, aop, wop, resL, resV, tupleV, akV, isVal, isCell, Value.cells, ρ0, ρ1, ρ2, ρ3, ρ4, ↓reduceIte, Nat.reduceEqDiff, Nat.reduceAdd, Int.reduceOfNat, Int.reduceNegSucc, reduceCtorEq, ρ5, ρ6, ρ7, ρ8, srcR_c, src_n, src_v, src_s, bnd, lenV, capV, ρ9, ρ10, ρ11, ρ12, ρ13, ρ14, ρ15, ρ16, ρ17, ρ18, ρ19, ρ20, ρ21, ρ22, ρ23, ρ24, Kd.isRo, ρ25, ρ26, bldV, Nat.reduceLeDiff, Int.reduceMul, Int.reduceAdd, Int.reduceSub, Int.reduceToNat, maxLen_eq, zeros_one, appS_some, appV_n, appV_v, appH_t, appH_f, Kd.isEx, ρ27, partV, CH.set_set, lkV, lkR, isKey, mupV, nxtV, ρ28, ρ29]) | (with_reducible first | refine condK_dec (fun _ => ?_) fun _ => ?_ | refine grd_dec (fun _ => ?_) fun _ => ?_ | refine egrd_dec (fun _ => ?_) fun _ => ?_))
  refine (hx _ ((HExt.refl H).new _)).mono ?_
  rintro v K ⟨rfl, rfl⟩
  repeat' (first | (simp (disch := first | omega | (decide +kernel) | (repeat first | assumption | exact HExt.refl _ | refine HExt.set ?_ (by first | omega | (simp only [new_nx, set_nx]; omega)) _ | refine HExt.new ?_ _)) only [↓RD, RU, accW_t, accW_f, isW, ↓putF_get, ↓putF_none, ↓evF_t, ↓evF_c, ↓evF_f, new_nx, set_nx, new_get, set_get, getD_zero, getD_succ, u_not, pop, lop, aop, wop, resL, resV, tupleV, akV, isVal, isCell, Value.cells, ρ0, ρ1, ρ2, ρ3, ρ4, ↓reduceIte, Nat.reduceEqDiff, Nat.reduceAdd, Int.reduceOfNat, Int.reduceNegSucc, reduceCtorEq, ρ5, ρ6, ρ7, ρ8, srcR_c, src_n, src_v, src_s, bnd, lenV, capV, ρ9, ρ10, ρ11, ρ12, ρ13, ρ14, ρ15, ρ16, ρ17, ρ18, ρ19, ρ20, ρ21, ρ22, ρ23, ρ24, Kd.isRo, ρ25, ρ26, bldV, Nat.reduceLeDiff, Int.reduceMul, Int.reduceAdd, Int.reduceSub, Int.reduceToNat, maxLen_eq, zeros_one, appS_some, appV_n, appV_v, appH_t, appH_f, Kd.isEx, ρ27, partV, CH.set_set, lkV, lkR, isKey, mupV, nxtV, ρ28, ρ29]) | (with_reducible first | refine condK_dec (fun _ => ?_) fun _ => ?_ | refine grd_dec (fun _ => ?_) fun _ => ?_ | refine egrd_dec (fun _ => ?_) fun _ => ?_))
  refine (parse_wp (sl := ⟨some ⟨H.nx + 1, 0, none⟩, 7, 7⟩) (ts := ts) (by have := slat_row (K := (H.new (.cells [.int .i64 0, .int .i64 0, .string ⟨⟨[]⟩⟩, .int .i64 0, .slice none 0 0] 28 .ex)).new (.cells ((ts.map tokV).flatten) 25 .gr)) (b := H.nx + 1) (ts := ts) (Nat.lt_succ_self _) (new_get.trans (if_pos rfl)) (by rw [hlen, maxLen_eq]; omega); rw [hlen] at this; exact this) hlen.symm hl).mono ?_
  rintro v K ⟨vs, rfl, hE, os, rfl, hs⟩
  obtain ⟨k, l, x, o, wa, wn, wc, rfl⟩ := nd_cells hs
  have hnx := hE.nx
  have hr : K.ob H.nx = .cells [.int .i64 0, .int .i64 0, .string ⟨⟨[]⟩⟩, .int .i64 0, .slice none 0 0] 28 .ex := by
    rw [hE.ob H.nx (by simp only [new_nx]; omega), new_ne (by simp only [new_nx]; omega)]
    exact new_get.trans (if_pos rfl)
  repeat' (first | (simp (disch := first | omega | (decide +kernel) | (repeat first | assumption | exact HExt.refl _ | refine HExt.set ?_ (by first | omega | (simp only [new_nx, set_nx]; omega)) _ | refine HExt.new ?_ _)) only [↓RD, RU, accW_t, accW_f, isW, ↓putF_get, ↓putF_none, ↓evF_t, ↓evF_c, ↓evF_f, new_nx, set_nx, new_get, set_get, getD_zero, getD_succ, u_not, pop, lop, aop, wop, resL, resV, tupleV, akV, isVal, isCell, Value.cells, ρ0, ρ1, ρ2, ρ3, ρ4, ↓reduceIte, Nat.reduceEqDiff, Nat.reduceAdd, Int.reduceOfNat, Int.reduceNegSucc, reduceCtorEq, ρ5, ρ6, ρ7, ρ8, srcR_c, src_n, src_v, src_s, bnd, lenV, capV, ρ9, ρ10, ρ11, ρ12, ρ13, ρ14, ρ15, ρ16, ρ17, ρ18, ρ19, ρ20, ρ21, ρ22, ρ23, ρ24, Kd.isRo, ρ25, ρ26, bldV, Nat.reduceLeDiff, Int.reduceMul, Int.reduceAdd, Int.reduceSub, Int.reduceToNat, maxLen_eq, zeros_one, appS_some, appV_n, appV_v, appH_t, appH_f, Kd.isEx, ρ27, partV, CH.set_set, lkV, lkR, isKey, mupV, nxtV, ρ28, ρ29, hr]) | (with_reducible first | refine condK_dec (fun _ => ?_) fun _ => ?_ | refine grd_dec (fun _ => ?_) fun _ => ?_ | refine egrd_dec (fun _ => ?_) fun _ => ?_))
  have hK : HExt H K := ((HExt.refl H).new _).new _ |>.trans hE
  refine ⟨[_, _, _], rfl, hK.set (Nat.le_refl _) _, [_, _, _, _, _], rfl, hs.mv fun b hb => ?_⟩
  obtain ⟨h1, h2⟩ := hb
  have h1 : H.nx + 2 ≤ b := h1
  exact ⟨⟨by omega, h2⟩, set_ne (by omega)⟩
end Can
end Go.Proofs.Ytnkfdkfmdeibfaa
end
section
namespace Go.Proofs.Ytnkfdkfmdeibfaa
namespace Can
open Go Go.RowKit
set_option linter.unusedSimpArgs false
set_option linter.unusedVariables false
set_option maxRecDepth 4000
noncomputable def knP : RCode × RCode × RCode × RCode × RCode × RCode := match (rF Try.prog 7).body with
  | .seq a (.seq b (.seq c (.seq d (.seq e f)))) => (a, b, c, d, e, f)
  | _ => (.skip, .skip, .skip, .skip, .skip, .skip)
theorem kn_body : (rF Try.prog 7).body = .seq knP.1 (.seq knP.2.1 (.seq knP.2.2.1 (.seq knP.2.2.2.1 (.seq knP.2.2.2.2.1 knP.2.2.2.2.2)))) := by kernel_rfl
theorem row_inv {K : CH} {A : Nat → Prop} {n : Nd} {ks : List Nd} {w : Value} (h : SVR K A (.row 5 (ndsS (n :: ks))) w) : ∃ b os e kd, w = .slice (some ⟨b, 0, none⟩) (ks.length + 1) (ks.length + 1) ∧ A b ∧ K.ob b = .cells os e kd ∧ kd.isRo = false ∧ SVRs K A (ndsS (n :: ks)).flatten os := by
  have hl : (ndsS (n :: ks)).length = ks.length + 1 := ndsS_len
  generalize hg : ndsS (n :: ks) = gs at h hl
  cases h with
  | row0 => simp at hl
  | row hne hb ho hk hg hs => rw [hl]; exact ⟨_, _, _, _, rfl, hb, ho, hk, hs⟩
theorem nd_inv {K : CH} {A : Nat → Prop} {k : Nat} {l : Int} {x : List UInt8} {o : Nat} {ks : List Nd} {rest : List SV} {os : List Value} (h : SVRs K A (ndS (.mk k l x o ks) ++ rest) os) : ∃ w os', os = .int .i64 (k : Nat) :: .int .i64 l :: .string ⟨⟨x⟩⟩ :: .int .i64 (o : Nat) :: w :: os' ∧ SVR K A (.row 5 (ndsS ks)) w ∧ SVRs K A rest os' := by
  cases h with | cons a1 h =>
  cases h with | cons a2 h =>
  cases h with | cons a3 h =>
  cases h with | cons a4 h =>
  cases h with | cons a5 h =>
  cases a1
  cases a2
  cases a3
  cases a4
  exact ⟨_, _, rfl, a5, h⟩
theorem known_wp {H : CH} : WpF TL 7 [] H fun v K => HExt H K ∧ v = .bool true := by
  refine wpF_rS (by rfl) (by kernel_rfl) ?_
  rw [kn_body]
  conv in (rF _ _).res => reduce
  have e : knP.1 = _ := rfl
  conv at e => rhs; reduce
  rw [e]
  clear e
  have e : knP.2.1 = _ := rfl
  conv at e => rhs; reduce
  rw [e]
  clear e
  repeat' (first | (simp (maxSteps := 2000000) (disch := first | omega | (decide +kernel) | (repeat first | assumption | exact HExt.refl _ | refine HExt.set ?_ (by first | omega | (simp only [new_nx, set_nx]; omega)) _ | refine HExt.new ?_ _)) only [↓RD, RU, accW_t, accW_f, isW, ↓putF_get, ↓putF_none, ↓evF_t, ↓evF_c, ↓evF_f, new_nx, set_nx, new_get, set_get, getD_zero, getD_succ, u_not, pop, lop, aop, wop, resL, resV, tupleV, akV, isVal, isCell, Value.cells, ρ0, ρ1, ρ2, ρ3, ρ4, ↓reduceIte, Nat.reduceEqDiff, Nat.reduceAdd, Int.reduceOfNat, Int.reduceNegSucc, reduceCtorEq, ρ5, ρ6, ρ7, ρ8, srcR_c, src_n, src_v, src_s, bnd, lenV, capV, ρ9, ρ10, ρ11, ρ12, ρ13, ρ14, ρ15, ρ16, ρ17, ρ18, ρ19, ρ20, ρ21, ρ22, ρ23, ρ24, Kd.isRo, ρ25, ρ26, bldV, Nat.reduceLeDiff, Int.reduceMul, Int.reduceAdd, Int.reduceSub, Int.reduceToNat, maxLen_eq, zeros_one, appS_some, appV_n, appV_v, appH_t, appH_f, Kd.isEx, ρ27, partV, CH.set_set, lkV, lkR, isKey, mupV, nxtV, ρ28, ρ29, frzV]) | (with_reducible first | refine condK_dec (fun _ => ?_) fun _ => ?_ | refine grd_dec (fun _ => ?_) fun _ => ?_ | refine egrd_dec (fun _ => ?_) fun _ => ?_))
  refine (source_wp (ts := toks1) (by decide) rfl (fun K hK => lex1_wp (p := H.nx) (by rw [hK.ob _ (Nat.lt_succ_self _)]; exact (new_get.trans (if_pos rfl)).trans rfl))).mono ?_
  rintro v K ⟨vs, rfl, hE, os, rfl, hs⟩
  rw [parse1] at hs ⊢
  have hK : HExt H K := ((HExt.refl H).new _).trans hE
  clear hE
  obtain ⟨w, os', rfl, hw, hn⟩ := nd_inv (rest := []) (k := 1) (l := 1) (x := []) (o := 0) (ks := [nd 3 1 [.mk 36 1 [97] 0 [], nd 52 1 [.mk 36 1 [98] 0 [], .mk 30 1 [49] 0 []]]]) hs
  cases hn
  obtain ⟨b1, os1, e1, kd1, rfl, hb1, ob1, kk1, hs1⟩ := row_inv hw
  obtain ⟨w1, os', rfl, hw1, hn⟩ := nd_inv (rest := []) (k := 3) (l := 1) (x := []) (o := 0) (ks := [.mk 36 1 [97] 0 [], nd 52 1 [.mk 36 1 [98] 0 [], .mk 30 1 [49] 0 []]]) hs1
  cases hn
  obtain ⟨b2, os2, e2, kd2, rfl, hb2, ob2, kk2, hs2⟩ := row_inv hw1
  obtain ⟨w2, os', rfl, hw2, hn⟩ := nd_inv (rest := ndS (nd 52 1 [.mk 36 1 [98] 0 [], .mk 30 1 [49] 0 []]) ++ []) (k := 36) (l := 1) (x := [97]) (o := 0) (ks := []) hs2
  obtain ⟨w3, os', rfl, hw3, hn⟩ := nd_inv (rest := []) (k := 52) (l := 1) (x := []) (o := 0) (ks := [.mk 36 1 [98] 0 [], .mk 30 1 [49] 0 []]) hn
  cases hn
  obtain ⟨b3, os3, e3, kd3, rfl, hb3, ob3, kk3, hs3⟩ := row_inv hw3
  obtain ⟨w4, os', rfl, hw4, hn⟩ := nd_inv (rest := ndS (.mk 30 1 [49] 0 []) ++ []) (k := 36) (l := 1) (x := [98]) (o := 0) (ks := []) hs3
  obtain ⟨w5, os', rfl, hw5, hn⟩ := nd_inv (rest := []) (k := 30) (l := 1) (x := [49]) (o := 0) (ks := []) hn
  cases hn
  obtain ⟨_, _, _, rfl⟩ := row_slc hw2
  have l1 : b1 < K.nx := hb1.2
  have l2 : b2 < K.nx := hb2.2
  have l3 : b3 < K.nx := hb3.2
  have n1 : b1 ≠ K.nx := Nat.ne_of_lt l1
  have n2 : b2 ≠ K.nx := Nat.ne_of_lt l2
  have n3 : b3 ≠ K.nx := Nat.ne_of_lt l3
  have n1' : b1 ≠ K.nx + 1 := by omega
  have n2' : b2 ≠ K.nx + 1 := by omega
  have n3' : b3 ≠ K.nx + 1 := by omega
  repeat' (first | (simp (maxSteps := 2000000) (disch := first | omega | (decide +kernel) | (repeat first | assumption | exact HExt.refl _ | refine HExt.set ?_ (by first | omega | (simp only [new_nx, set_nx]; omega)) _ | refine HExt.new ?_ _)) only [↓RD, RU, accW_t, accW_f, isW, ↓putF_get, ↓putF_none, ↓evF_t, ↓evF_c, ↓evF_f, new_nx, set_nx, new_get, set_get, getD_zero, getD_succ, u_not, pop, lop, aop, wop, resL, resV, tupleV, akV, isVal, isCell, Value.cells, ρ0, ρ1, ρ2, ρ3, ρ4, ↓reduceIte, Nat.reduceEqDiff, Nat.reduceAdd, Int.reduceOfNat, Int.reduceNegSucc, reduceCtorEq, ρ5, ρ6, ρ7, ρ8, srcR_c, src_n, src_v, src_s, bnd, lenV, capV, ρ9, ρ10, ρ11, ρ12, ρ13, ρ14, ρ15, ρ16, ρ17, ρ18, ρ19, ρ20, ρ21, ρ22, ρ23, ρ24, Kd.isRo, ρ25, ρ26, bldV, Nat.reduceLeDiff, Int.reduceMul, Int.reduceAdd, Int.reduceSub, Int.reduceToNat, maxLen_eq, zeros_one, appS_some, appV_n, appV_v, appH_t, appH_f, Kd.isEx, ρ27, partV, CH.set_set, lkV, lkR, isKey, mupV, nxtV, ρ28, ρ29, Nat.zero_mul, Nat.one_mul, Nat.reduceMul, ob1, ob2, ob3, n1, n2, n3, n1', n2', n3']) | (with_reducible first | refine condK_dec (fun _ => ?_) fun _ => ?_ | refine grd_dec (fun _ => ?_) fun _ => ?_ | refine egrd_dec (fun _ => ?_) fun _ => ?_))
  have e : knP.2.2.1 = _ := rfl
  conv at e => rhs; reduce
  rw [e]
  clear e
  repeat' (first | (simp (maxSteps := 2000000) (disch := first | omega | (decide +kernel) | (repeat first | assumption | exact HExt.refl _ | refine HExt.set ?_ (by first | omega | (simp only [new_nx, set_nx]; omega)) _ | refine HExt.new ?_ _)) only [↓RD, RU, accW_t, accW_f, isW, ↓putF_get, ↓putF_none, ↓evF_t, ↓evF_c, ↓evF_f, new_nx, set_nx, new_get, set_get, getD_zero, getD_succ, u_not, pop, lop, aop, wop, resL, resV, tupleV, akV, isVal, isCell, Value.cells, ρ0, ρ1, ρ2, ρ3, ρ4, ↓reduceIte, Nat.reduceEqDiff, Nat.reduceAdd, Int.reduceOfNat, Int.reduceNegSucc, reduceCtorEq, ρ5, ρ6, ρ7, ρ8, srcR_c, src_n, src_v, src_s, bnd, lenV, capV, ρ9, ρ10, ρ11, ρ12, ρ13, ρ14, ρ15, ρ16, ρ17, ρ18, ρ19, ρ20, ρ21, ρ22, ρ23, ρ24, Kd.isRo, ρ25, ρ26, bldV, Nat.reduceLeDiff, Int.reduceMul, Int.reduceAdd, Int.reduceSub, Int.reduceToNat, maxLen_eq, zeros_one, appS_some, appV_n, appV_v, appH_t, appH_f, Kd.isEx, ρ27, partV, CH.set_set, lkV, lkR, isKey, mupV, nxtV, ρ28, ρ29, Nat.zero_mul, Nat.one_mul, Nat.reduceMul, ob1, ob2, ob3, n1, n2, n3, n1', n2', n3']) | (with_reducible first | refine condK_dec (fun _ => ?_) fun _ => ?_ | refine grd_dec (fun _ => ?_) fun _ => ?_ | refine egrd_dec (fun _ => ?_) fun _ => ?_))
  have e : knP.2.2.2.1 = _ := rfl
  conv at e => rhs; reduce
  rw [e]
  clear e
  repeat' (first | (simp (maxSteps := 2000000) (disch := first | omega | (decide +kernel) | (repeat first | assumption | exact HExt.refl _ | refine HExt.set ?_ (by first | omega | (simp only [new_nx, set_nx]; omega)) _ | refine HExt.new ?_ _)) only [↓RD, RU, accW_t, accW_f, isW, ↓putF_get, ↓putF_none, ↓evF_t, ↓evF_c, ↓evF_f, new_nx, set_nx, new_get, set_get, getD_zero, getD_succ, u_not, pop, lop, aop, wop, resL, resV, tupleV, akV, isVal, isCell, Value.cells, ρ0, ρ1, ρ2, ρ3, ρ4, ↓reduceIte, Nat.reduceEqDiff, Nat.reduceAdd, Int.reduceOfNat, Int.reduceNegSucc, reduceCtorEq, ρ5, ρ6, ρ7, ρ8, srcR_c, src_n, src_v, src_s, bnd, lenV, capV, ρ9, ρ10, ρ11, ρ12, ρ13, ρ14, ρ15, ρ16, ρ17, ρ18, ρ19, ρ20, ρ21, ρ22, ρ23, ρ24, Kd.isRo, ρ25, ρ26, bldV, Nat.reduceLeDiff, Int.reduceMul, Int.reduceAdd, Int.reduceSub, Int.reduceToNat, maxLen_eq, zeros_one, appS_some, appV_n, appV_v, appH_t, appH_f, Kd.isEx, ρ27, partV, CH.set_set, lkV, lkR, isKey, mupV, nxtV, ρ28, ρ29, Nat.zero_mul, Nat.one_mul, Nat.reduceMul, ob1, ob2, ob3, n1, n2, n3, n1', n2', n3']) | (with_reducible first | refine condK_dec (fun _ => ?_) fun _ => ?_ | refine grd_dec (fun _ => ?_) fun _ => ?_ | refine egrd_dec (fun _ => ?_) fun _ => ?_))
  have e : knP.2.2.2.2.1 = _ := rfl
  conv at e => rhs; reduce
  rw [e]
  clear e
  repeat' (first | (simp (maxSteps := 2000000) (disch := first | omega | (decide +kernel) | (repeat first | assumption | exact HExt.refl _ | refine HExt.set ?_ (by first | omega | (simp only [new_nx, set_nx]; omega)) _ | refine HExt.new ?_ _)) only [↓RD, RU, accW_t, accW_f, isW, ↓putF_get, ↓putF_none, ↓evF_t, ↓evF_c, ↓evF_f, new_nx, set_nx, new_get, set_get, getD_zero, getD_succ, u_not, pop, lop, aop, wop, resL, resV, tupleV, akV, isVal, isCell, Value.cells, ρ0, ρ1, ρ2, ρ3, ρ4, ↓reduceIte, Nat.reduceEqDiff, Nat.reduceAdd, Int.reduceOfNat, Int.reduceNegSucc, reduceCtorEq, ρ5, ρ6, ρ7, ρ8, srcR_c, src_n, src_v, src_s, bnd, lenV, capV, ρ9, ρ10, ρ11, ρ12, ρ13, ρ14, ρ15, ρ16, ρ17, ρ18, ρ19, ρ20, ρ21, ρ22, ρ23, ρ24, Kd.isRo, ρ25, ρ26, bldV, Nat.reduceLeDiff, Int.reduceMul, Int.reduceAdd, Int.reduceSub, Int.reduceToNat, maxLen_eq, zeros_one, appS_some, appV_n, appV_v, appH_t, appH_f, Kd.isEx, ρ27, partV, CH.set_set, lkV, lkR, isKey, mupV, nxtV, ρ28, ρ29, frzV]) | (with_reducible first | refine condK_dec (fun _ => ?_) fun _ => ?_ | refine grd_dec (fun _ => ?_) fun _ => ?_ | refine egrd_dec (fun _ => ?_) fun _ => ?_))
  refine (source_wp (ts := toks2) (by decide) rfl (fun K3 hK3 => lex2_wp (p := K.nx + 1 + 1) ((hK3.ob (K.nx + 1 + 1) (Nat.lt_succ_self _)).trans ((new_get.trans (if_pos rfl)).trans rfl)))).mono ?_
  rintro v K2 ⟨vs, rfl, hE2, os, rfl, hsz⟩
  rw [parse2] at hsz ⊢
  have hx2 := hE2.ob
  have m4 := hx2 (K.nx + 1) (by show K.nx + 1 < K.nx + 1 + 1 + 1; omega)
  have m3 := hx2 b3 (by show b3 < K.nx + 1 + 1 + 1; omega)
  simp only [new_get, set_get, new_nx, set_nx, n3, n3', show ¬ (b3 = K.nx + 1 + 1) by omega, show ¬ (K.nx + 1 = K.nx + 1 + 1) by omega, if_false, if_true, ↓reduceIte, ob3] at m4 m3
  have e : knP.2.2.2.2.2 = _ := rfl
  conv at e => rhs; reduce
  rw [e]
  clear e
  repeat' (first | (simp (maxSteps := 2000000) (disch := first | omega | (decide +kernel) | (repeat first | assumption | exact HExt.refl _ | refine HExt.set ?_ (by first | omega | (simp only [new_nx, set_nx]; omega)) _ | refine HExt.new ?_ _)) only [↓RD, RU, accW_t, accW_f, isW, ↓putF_get, ↓putF_none, ↓evF_t, ↓evF_c, ↓evF_f, new_nx, set_nx, new_get, set_get, getD_zero, getD_succ, u_not, pop, lop, aop, wop, resL, resV, tupleV, akV, isVal, isCell, Value.cells, ρ0, ρ1, ρ2, ρ3, ρ4, ↓reduceIte, Nat.reduceEqDiff, Nat.reduceAdd, Int.reduceOfNat, Int.reduceNegSucc, reduceCtorEq, ρ5, ρ6, ρ7, ρ8, srcR_c, src_n, src_v, src_s, bnd, lenV, capV, ρ9, ρ10, ρ11, ρ12, ρ13, ρ14, ρ15, ρ16, ρ17, ρ18, ρ19, ρ20, ρ21, ρ22, ρ23, ρ24, Kd.isRo, ρ25, ρ26, bldV, Nat.reduceLeDiff, Int.reduceMul, Int.reduceAdd, Int.reduceSub, Int.reduceToNat, maxLen_eq, zeros_one, appS_some, appV_n, appV_v, appH_t, appH_f, Kd.isEx, ρ27, partV, CH.set_set, lkV, lkR, isKey, mupV, nxtV, ρ28, ρ29, Nat.zero_mul, Nat.one_mul, Nat.reduceMul, m3, m4]) | (with_reducible first | refine condK_dec (fun _ => ?_) fun _ => ?_ | refine grd_dec (fun _ => ?_) fun _ => ?_ | refine egrd_dec (fun _ => ?_) fun _ => ?_))
  rw [pstr_eq, decide_eq_true (by rfl)]
  repeat' (first | (simp (maxSteps := 2000000) (disch := first | omega | (decide +kernel) | (repeat first | assumption | exact HExt.refl _ | refine HExt.set ?_ (by first | omega | (simp only [new_nx, set_nx]; omega)) _ | refine HExt.new ?_ _)) only [↓RD, RU, accW_t, accW_f, isW, ↓putF_get, ↓putF_none, ↓evF_t, ↓evF_c, ↓evF_f, new_nx, set_nx, new_get, set_get, getD_zero, getD_succ, u_not, pop, lop, aop, wop, resL, resV, tupleV, akV, isVal, isCell, Value.cells, ρ0, ρ1, ρ2, ρ3, ρ4, ↓reduceIte, Nat.reduceEqDiff, Nat.reduceAdd, Int.reduceOfNat, Int.reduceNegSucc, reduceCtorEq, ρ5, ρ6, ρ7, ρ8, srcR_c, src_n, src_v, src_s, bnd, lenV, capV, ρ9, ρ10, ρ11, ρ12, ρ13, ρ14, ρ15, ρ16, ρ17, ρ18, ρ19, ρ20, ρ21, ρ22, ρ23, ρ24, Kd.isRo, ρ25, ρ26, bldV, Nat.reduceLeDiff, Int.reduceMul, Int.reduceAdd, Int.reduceSub, Int.reduceToNat, maxLen_eq, zeros_one, appS_some, appV_n, appV_v, appH_t, appH_f, Kd.isEx, ρ27, partV, CH.set_set, lkV, lkR, isKey, mupV, nxtV, ρ28, ρ29]) | (with_reducible first | refine condK_dec (fun _ => ?_) fun _ => ?_ | refine grd_dec (fun _ => ?_) fun _ => ?_ | refine egrd_dec (fun _ => ?_) fun _ => ?_))
  exact (((((hK.new _).set (by have := hK.nx; omega) _).new _).set (by have := hK.nx; omega) _).new _).trans hE2
end Can
end Go.Proofs.Ytnkfdkfmdeibfaa
end
section
namespace Go.Proofs.Ytnkfdkfmdeibfaa
namespace Can
open Go Go.RowKit
set_option linter.unusedSimpArgs false
set_option linter.unusedVariables false
set_option maxRecDepth 4000
theorem slat_ext {K K' : CH} {q : Option Addr} {c : Nat} {ts : List PT} (h : SlAt 3 CTk K q c ts) (hx : HExt K K') : SlAt 3 CTk K' q c ts := by
  rcases h with h | ⟨l, o, os, e, k, h0, h1, h2, h3, h4, h5, h6⟩
  · exact .inl h
  · exact .inr ⟨l, o, os, e, k, h0, Nat.lt_of_lt_of_le h1 hx.nx, h2, h3, (hx.ob l h1).trans h4, h5, h6⟩
theorem tok_ok : ∀ t : PT, (tokV t).length = 3 ∧ (tokV t).all isCell = true := fun t => ⟨rfl, rfl⟩
theorem same_wp (ln : Bool) {K : CH} {A B : Nat → Prop} (hA : ∀ b, A b → b < K.nx) (hB : ∀ b, B b → b < K.nx) {a b : Nd} {os os' : List Value} (h : SVRs K A (ndS a) os) (h' : SVRs K B (ndS b) os') : WpF TL 9 [.agg os.toArray, .agg os'.toArray, .bool ln] K fun v K' => HExt K K' ∧ v = .bool (sameN ln a b) := by
  obtain ⟨k, l, x, o, ks⟩ := a
  obtain ⟨k', l', x', o', ks'⟩ := b
  obtain ⟨w, _, rfl, hw, hn⟩ := nd_inv (rest := []) (by simpa using h)
  cases hn
  obtain ⟨w', _, rfl, hw', hn⟩ := nd_inv (rest := []) (by simpa using h')
  cases hn
  have r1 := nd_rel hA (k := k) (l := l) (x := x) (o := o) hw
  have r2 := nd_rel hB (k := k') (l := l') (x := x') (o := o') hw'
  refine (tc_wp (X := pX) (same_tc ln (nsz (.mk k l x o ks) + 1) k l x o ks k' l' x' o' ks' (Nat.lt_succ_self _) (fun a _ => a = rS (.bool (sameN ln (.mk k l x o ks) (.mk k' l' x' o' ks')))) _ rfl) ?_).mono fun v K' ⟨h1, a, s', h2, h3⟩ => ⟨h1, by subst h3; exact raw_rel h2 rfl⟩
  cases r1 with | cons r1 _ =>
  cases r2 with | cons r2 _ =>
  exact .cons r1 (.cons r2 (.cons (rS_rel rfl) .nil))
def okC : CObj → TypeId → Bool
  | .cells _ e' .ro, _ => true
  | .cells _ e' _, e => e' == e
  | _, _ => false
theorem okSl_c {H : CH} {e : TypeId} {l o n c : Nat} : okSl H e (.slice (some ⟨l, o, none⟩) n c) = okC (H.ob l) e := by
  simp only [okSl]
  cases H.ob l with
  | cells cs e' k => cases k <;> rfl
  | _ => rfl
theorem okC_t {cs : List Value} {e : TypeId} {k : Kd} : okC (.cells cs e k) e = true := by
  cases k <;> simp [okC]
theorem sl_tok {b n c j : Nat} (h2 : j ≤ c) (h3 : 0 < c) : sliceV 3 (.slice (some ⟨b, 0, none⟩) n c) ((0 : Nat) : Int) (j : Int) (c : Int) false = some (.slice (some ⟨b, 0, none⟩) j c) := by
  unfold sliceV
  simp
  omega
mutual
theorem sameN_refl {ln : Bool} : ∀ t : Nd, sameN ln t t = true
  | .mk k l x o ks => by
    simp only [sameN, sameL_refl ks, decide_true, Bool.or_true, Bool.and_true]
theorem sameL_refl {ln : Bool} : ∀ ks : List Nd, sameL ln ks ks = true
  | [] => rfl
  | n :: ks => by
    show (sameN ln n n && sameL ln ks ks) = true
    rw [sameN_refl n, sameL_refl ks]; rfl
end
end Can
end Go.Proofs.Ytnkfdkfmdeibfaa
end
section
namespace Go.Proofs.Ytnkfdkfmdeibfaa
namespace Can
set_option linter.unusedSimpArgs false
set_option linter.unusedVariables false
mutual
def kdN (B : Nat) : Nd → Prop
  | .mk _ _ _ _ ks => 2 * ks.length ≤ B + 16 ∧ kdL B ks
def kdL (B : Nat) : List Nd → Prop
  | [] => True
  | n :: ks => kdN B n ∧ kdL B ks
end
mutual
theorem kdN_mono {B B' : Nat} (h : B ≤ B') : ∀ n : Nd, kdN B n → kdN B' n
  | .mk _ _ _ _ ks, g => ⟨Nat.le_trans g.1 (by omega), kdL_mono h ks g.2⟩
theorem kdL_mono {B B' : Nat} (h : B ≤ B') : ∀ l : List Nd, kdL B l → kdL B' l
  | [], _ => trivial
  | n :: l, g => ⟨kdN_mono h n g.1, kdL_mono h l g.2⟩
end
theorem kdN_up {B B' : Nat} {n : Nd} (g : kdN B n) (h : B ≤ B') : kdN B' n := kdN_mono h n g
theorem kdL_up {B B' : Nat} {l : List Nd} (g : kdL B l) (h : B ≤ B') : kdL B' l := kdL_mono h l g
theorem kdL_app {B : Nat} : ∀ {a b : List Nd}, kdL B (a ++ b) ↔ kdL B a ∧ kdL B b
  | [], b => by simp [kdL]
  | n :: a, b => by simp only [List.cons_append, kdL, kdL_app, and_assoc]
theorem kdL_mem {B : Nat} : ∀ {l : List Nd} {n : Nd}, kdL B l → n ∈ l → kdN B n
  | m :: l, n, h, hn => by
    rcases List.mem_cons.1 hn with rfl | hn
    · exact h.1
    · exact kdL_mem h.2 hn
theorem kd_get {B : Nat} {ks : List Nd} {k : Nat} {l : Int} {x : List UInt8} {o : Nat} (h : kdN B (.mk k l x o ks)) {i : Nat} {t : Nd} (ht : ks[i]? = some t) : kdN B t := kdL_mem h.2 (List.mem_of_getElem? ht)
def KB (L : Nat) : PR → Prop
  | some (.ok (l, j)) => L ≤ j ∧ kdL j l ∧ 2 * l.length ≤ j + 6
  | _ => True
theorem KB.weak {L L' : Nat} {r : PR} (h : KB L' r) (hL : L ≤ L') : KB L r := by
  match r, h with
  | none, _ => exact trivial
  | some (.error e), _ => exact trivial
  | some (.ok (l, j)), h => exact ⟨Nat.le_trans hL h.1, h.2⟩
theorem kb_if {c : Prop} [Decidable c] {L : Nat} {a b : PR} (h1 : KB L a) (h2 : KB L b) : KB L (if c then a else b) := by
  split
  · exact h1
  · exact h2
theorem kb_wantB {ts : List PT} {s : List UInt8} {i L : Nat} {k : Nat → PR} (h : KB L (k (i + 1))) : KB L (wantB ts s i k) := kb_if h trivial
theorem kb_wantK {ts : List PT} {kd : Int} {i L : Nat} {k : List UInt8 → Nat → PR} (h : ∀ x, KB L (k x (i + 1))) : KB L (wantK ts kd i k) := kb_if (h _) trivial
theorem kb_pb {L L' : Nat} {r : PR} {k : List Nd → Nat → PR} (h : KB L' r) (hk : ∀ l j, L' ≤ j → kdL j l → 2 * l.length ≤ j + 6 → KB L (k l j)) : KB L (pb r k) := by
  match r, h with
  | none, _ => exact trivial
  | some (.error e), _ => exact trivial
  | some (.ok (l, j)), h => exact hk l j h.1 h.2.1 h.2.2
theorem kb_pb1 {L L' : Nat} {r : PR} {k : Nd → Nat → PR} (h : KB L' r) (hk : ∀ n j, L' ≤ j → kdN j n → KB L (k n j)) : KB L (pb1 r k) := kb_pb h fun l j h1 h2 _ => by
  match l, h2 with
  | [], _ => exact trivial
  | _ :: _ :: _, _ => exact trivial
  | [n], h2 => exact hk n j h1 h2.1
theorem kb_er {L e : Nat} : KB L (some (.error e)) := trivial
theorem kb_ok {L j : Nat} {l : List Nd} (h1 : L ≤ j) (h2 : kdL j l) (h3 : 2 * l.length ≤ j + 6) : KB L (some (.ok (l, j))) := ⟨h1, h2, h3⟩
theorem kb_pk {L j : Nat} {n : Nd} (h1 : L ≤ j) (h2 : kdN j n) : KB L (pk1 n j) := ⟨h1, ⟨h2, trivial⟩, by simp⟩
def NT.kd (i : Nat) : NT → Prop
  | .params _ _ acc | .row _ acc | .exprsL _ acc | .clauses acc | .dictL _ acc | .placesL _ acc | .names _ _ acc | .asgL _ acc | .blockL acc | .triesL acc | .top acc => kdL i acc ∧ 2 * acc.length ≤ i + 4
  | .triesF _ acc => kdL i acc ∧ 2 * acc.length ≤ i + 6
  | .cmpL n acc => kdN i n ∧ kdL i acc ∧ 2 * acc.length ≤ i + 4
  | .orL n | .andL n | .arithL n | .termL n | .primL n | .index n => kdN i n
  | _ => True
def KbOk (ts : List PT) (f : Nat) : Prop := ∀ a i, a.kd i → KB (i + a.min) (gr ts f a i)
def opK (p : Nat) : Except Nat (Nat × Nat) → Prop
  | .error _ => True
  | .ok (op, j) => op ≠ 0 → p + 1 ≤ j
theorem opK_if {c : Prop} [Decidable c] {p : Nat} {a b : Except Nat (Nat × Nat)} (h1 : opK p a) (h2 : opK p b) : opK p (if c then a else b) := by
  split
  · exact h1
  · exact h2
theorem opT_k (ts : List PT) (p : Nat) : opK p (opT ts p) := by
  unfold opT
  repeat' first
    | (with_reducible refine opK_if ?_ ?_)
    | exact trivial
    | exact fun _ => Nat.le_refl _
    | exact fun h => absurd rfl h
    | exact fun _ => (show p + 1 ≤ p + 2 by omega)
theorem kb_op {ts : List PT} {p L : Nat} {A : PR} {B : Nat → Nat → PR} (hA : KB L A) (hB : ∀ op j, p + 1 ≤ j → KB L (B op j)) : KB L (match opT ts p with | .error e => some (.error e) | .ok (0, _) => A | .ok (op + 1, j) => B op j) := by
  have h := opT_k ts p
  match opT ts p, h with
  | .error e, _ => exact trivial
  | .ok (0, _), _ => exact hA
  | .ok (op + 1, j), h => exact hB op j (h (by omega))
set_option maxHeartbeats 4000000 in
theorem gr_kd {ts : List PT} : ∀ f, KbOk ts f := by
  intro f
  induction f with
  | zero => intro a i h; exact trivial
  | succ f ih =>
  have h1 : ∀ a i L, a.kd i → L ≤ i + a.min → KB L (gr ts f a i) := fun a i L h hL => (ih a i h).weak hL
  have hm : ∀ (all : Bool) i, KB (i + 1) (gr ts f (if all = true then .exprs else .expr) i) := fun all i => by
    cases all
    · exact ih .expr i trivial
    · exact ih .exprs i trivial
  intro a i ha
  cases a
  case asgL l acc =>
    obtain ⟨ha1, ha2⟩ := ha
    simp only [gr]
    refine kb_if ?_ (kb_pk (Nat.le_refl _) ⟨by omega, ha1⟩)
    cases hq : acc.getLast? with
    | none => exact trivial
    | some n => exact kb_if (kb_pb1 (ih .value (i + 1) trivial) fun v j hj hv => h1 _ _ _ ⟨kdL_app.2 ⟨kdL_mono (by have hj : i + 1 + 1 ≤ j := hj; omega) _ ha1, hv, trivial⟩, by have hj : i + 1 + 1 ≤ j := hj; simp only [List.length_append, List.length_cons, List.length_nil]; omega⟩ (by have hj : i + 1 + 1 ≤ j := hj; show i + 0 ≤ j + 0; omega)) trivial
  case cmpL n acc =>
    obtain ⟨hn, ha1, ha2⟩ := ha
    simp only [gr]
    refine kb_op (kb_pk (Nat.le_refl _) ?_) fun op j hj => kb_pb1 (ih .arith j trivial) fun m k hk hm => h1 _ _ _ ⟨kdN_up hn (by have hk : j + 1 ≤ k := hk; omega), kdL_app.2 ⟨kdL_up ha1 (by have hk : j + 1 ≤ k := hk; omega), ⟨by simp, hm, trivial⟩, trivial⟩, by have hk : j + 1 ≤ k := hk; simp only [List.length_append, List.length_cons, List.length_nil]; omega⟩ (by have hk : j + 1 ≤ k := hk; show i + 0 ≤ k + 0; omega)
    split
    · exact hn
    · exact ⟨by simp only [List.length_cons]; omega, hn, ha1⟩
  all_goals simp only [NT.kd] at ha
  all_goals simp only [gr, NT.min]
  all_goals (repeat' first
    | exact kb_er
    | (simp only [NT.min] at hj)
    | (with_reducible refine kb_if ?_ ?_)
    | (with_reducible refine kb_op ?_ fun op j hj => ?_)
    | (with_reducible refine kb_wantB ?_)
    | (with_reducible refine kb_wantK fun x => ?_)
    | (with_reducible refine kb_pb1 (hm _ _) fun n j hj hn => ?_)
    | (with_reducible refine kb_pb1 (h1 _ _ _ ?_ (Nat.le_refl _)) fun n j hj hn => ?_)
    | (with_reducible refine kb_pb (h1 _ _ _ ?_ (Nat.le_refl _)) fun l j hj hn hl => ?_)
    | (with_reducible refine kb_pk ?_ ?_)
    | (with_reducible refine kb_ok ?_ ?_ ?_)
    | (with_reducible refine h1 _ _ _ ?_ ?_)
    | (with_reducible assumption)
    | exact True.intro
    | omega
    | (obtain ⟨ha1, ha2⟩ := ha)
    | (obtain ⟨ha3, ha4⟩ := ha2)
    | (simp only [NT.min, NT.kd, kdL, kdN, kdL_app, List.length_append, List.length_cons, List.length_nil, and_true, true_and])
    | (refine ⟨?_, ?_⟩)
    | exact kdN_up (by with_reducible assumption) (by omega)
    | exact kdL_up (by with_reducible assumption) (by omega))
end Can
end Go.Proofs.Ytnkfdkfmdeibfaa
end
