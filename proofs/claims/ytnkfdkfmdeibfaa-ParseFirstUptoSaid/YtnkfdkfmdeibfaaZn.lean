/- Parse, the program: parse.Parse, ahead of its deferred call. Parse, the program: parse.Parse answers parseT. Parse, its laws: the sources of the example, lexed by evaluation. Parse, its laws: the table in which it is told what Parse does; Same of trees. Parse, its laws: Source; the example holds. Parse, its laws: the example holds. Parse, its laws: the answers for tokens with other lines. No program in sight, but for Same. Parse, its laws: the first token that can't stand there. No program in sight. Parse, its laws: ParseLines walked. -/
import Derived.Test.YtnkfdkfmdeibfaaZi
import Derived.Test.YtnkfdkfmdeibfaaZm
import Derived.Test.YtnkfdkfmdeibfaaZe
import Derived.Test.YtnkfdkfmdeibfaaZa
section
namespace Go.Proofs.Ytnkfdkfmdeibfaa
namespace Can
open Go Go.RowKit
set_option linter.unusedSimpArgs false
set_option linter.unusedVariables false
set_option maxRecDepth 4000
def zNd : Nd := .mk 0 0 [] 0 []
def parseT (ts : List PT) : Nd × Int × Int := match gr ts (ts.length * 64 + 100) (.top []) 0 with
  | some (.ok (l, _)) => if 60 < htL l + 1 then (zNd, 0, 11) else (nd 1 (hdLine (nowT ts 0).line l) l, 0, 0)
  | some (.error e) => (zNd, (nowT ts e).line, 22)
  | none => (zNd, 0, 0)
noncomputable def prP : List Item × List Item × RCode × RCode × RCode := match (rF Try.prog 8).body with
  | .seq (.reg a) (.seq (.reg b) (.seq .bad (.seq c (.seq d e)))) => (a, b, c, d, e)
  | _ => ([], [], .skip, .skip, .skip)
theorem pr_body : (rF Try.prog 8).body = .seq (.reg prP.1) (.seq (.reg prP.2.1) (.seq .bad (.seq prP.2.2.1 (.seq prP.2.2.2.1 prP.2.2.2.2)))) := by kernel_rfl
theorem pr_res : (rF Try.prog 8).res = [.lda 5 2, .ld 3, .ld 4] := by kernel_rfl
def prK (H : CH) (sl : Sl) : CH := (((H.new (.cells [.int .i64 0, .int .i64 0, .string ⟨⟨[]⟩⟩, .int .i64 0, .slice none 0 0] 28 .ex)).new (.cells [.int .i64 0] 3 .ex)).new (.cells [.int .i64 0] 29 .ex)).new (rpC sl 0)
abbrev pP (l : Nat) : Value := .pointer (some ⟨l, 0, none⟩)
theorem pr_r0 {H : CH} {fr : Fr} {sl : Sl} (h0 : fr 0 = .slice sl.q sl.n sl.c) : WpR (tblG Try.prog LG GG) (.reg prP.1) fr H fun x fr1 H1 => x = .normal ∧ WpR (tblG Try.prog LG GG) (.reg prP.2.1) fr1 H1 fun x fr2 H2 => x = .normal ∧ fr2 2 = pP H.nx ∧ fr2 3 = pP (H.nx + 1) ∧ fr2 4 = pP (H.nx + 2) ∧ fr2 5 = pP (H.nx + 3) ∧ H2 = prK H sl := by
  have e1 : prP.1 = _ := rfl
  conv at e1 => rhs; reduce
  have e2 : prP.2.1 = _ := rfl
  conv at e2 => rhs; reduce
  rw [e1, e2]
  repeat' (first | (simp (disch := first | omega | (decide +kernel) | (repeat first | assumption | exact HExt.refl _ | refine HExt.set ?_ (by first | omega | (simp only [new_nx, set_nx]; omega)) _ | refine HExt.new ?_ _)) only [↓RD, RU, accW_t, accW_f, isW, ↓putF_get, ↓putF_none, ↓evF_t, ↓evF_c, ↓evF_f, new_nx, set_nx, new_get, set_get, getD_zero, getD_succ, u_not, pop, lop, aop, wop, resL, resV, tupleV, akV, isVal, isCell, Value.cells, ρ0, ρ1, ρ2, ρ3, ρ4, ↓reduceIte, Nat.reduceEqDiff, Nat.reduceAdd, Int.reduceOfNat, Int.reduceNegSucc, reduceCtorEq, ρ5, ρ6, ρ7, ρ8, srcR_c, src_n, src_v, src_s, bnd, lenV, capV, ρ9, ρ10, ρ11, ρ12, ρ13, ρ14, ρ15, ρ16, ρ17, ρ18, ρ19, ρ20, ρ21, ρ22, ρ23, ρ24, Kd.isRo, ρ25, ρ26, bldV, Nat.reduceLeDiff, Int.reduceMul, Int.reduceAdd, Int.reduceSub, Int.reduceToNat, maxLen_eq, zeros_one, appS_some, appV_n, appV_v, appH_t, appH_f, Kd.isEx, ρ27, partV, CH.set_set, lkV, lkR, isKey, mupV, nxtV, ρ28, ρ29, h0]) | (with_reducible first | refine condK_dec (fun _ => ?_) fun _ => ?_ | refine grd_dec (fun _ => ?_) fun _ => ?_ | refine egrd_dec (fun _ => ?_) fun _ => ?_))
  rfl
def prZ (H : CH) (sl : Sl) : TP := ⟨fun b => ∃ o, sl.q = some ⟨b, o, none⟩, H.ob⟩
theorem prZ_in {H : CH} {sl : Sl} {ts : List PT} (h : SlAt 3 CTk H sl.q sl.c ts) {b : Nat} (hb : (prZ H sl).N b) : b < H.nx := by
  obtain ⟨o, ho⟩ := hb
  rcases h with ⟨_, _, h | h | h⟩ | ⟨l, o', os, e, k, q, hl, _⟩
  · rw [h] at ho; cases ho
  · rw [h] at ho; cases ho
  · rw [h] at ho; cases ho
  · rw [q] at ho; cases ho; exact hl
theorem prZ_ok {H : CH} {sl : Sl} {ts : List PT} (h : SlAt 3 CTk H sl.q sl.c ts) (hn : sl.n = ts.length) : TkZ (prZ H sl) sl ts := by
  refine ⟨hn, fun l o q => ⟨o, q⟩, fun K hK => ?_⟩
  rcases h with ⟨h1, h2, h3⟩ | ⟨l, o, os, e, k, q, h1, h2, h3, h4, h5, h6⟩
  · exact .inl ⟨h1, h2, h3⟩
  · obtain ⟨g1, g2⟩ := hK l ⟨o, q⟩
    exact .inr ⟨l, o, os, e, k, q, g1, h2, h3, g2.trans h4, h5, h6⟩
def prF (H : CH) : TFr := fun t => [.bad, .bad, rS (pP H.nx), rS (pP (H.nx + 1)), rS (pP (H.nx + 2)), .ptr 0 0].getD t .bad
theorem prK_nx {H : CH} {sl : Sl} : (prK H sl).nx = H.nx + 4 := rfl
theorem prK_old {H : CH} {sl : Sl} {b : Nat} (hb : b < H.nx) : (prK H sl).ob b = H.ob b := by
  unfold prK
  rw [new_ne (by simp only [new_nx]; omega), new_ne (by simp only [new_nx]; omega), new_ne (by simp only [new_nx]; omega), new_ne (by omega)]
theorem prK_r {H : CH} {sl : Sl} : (prK H sl).ob (H.nx + 3) = rpC sl 0 := new_get.trans (if_pos rfl)
theorem pr_start {H : CH} {sl : Sl} {ts : List PT} (h : SlAt 3 CTk H sl.q sl.c ts) {cfr : Fr} (c2 : cfr 2 = pP H.nx) (c3 : cfr 3 = pP (H.nx + 1)) (c4 : cfr 4 = pP (H.nx + 2)) (c5 : cfr 5 = pP (H.nx + 3)) :
    TR (prZ H sl) (prK H sl) (some (H.nx + 3)) (prK H sl) (st0 (rdR sl 0)) (prF H) cfr (E0 (some (H.nx + 3)) fun b => b < H.nx + 4 ∧ b ≠ H.nx + 3) := by
  have t0 : TR (prZ H sl) (prK H sl) (some (H.nx + 3)) (prK H sl) (st0 (rdR sl 0)) (fun t => ([] : List AV).getD t .bad) (fun t => ([] : List Value).getD t undef) (E0 (some (H.nx + 3)) fun b => b < H.nx + 4 ∧ b ≠ H.nx + 3) := by
    refine TR.start (e := none) (fun b hb => ⟨hb.1, fun e => hb.2 (by cases e; rfl)⟩) (fun b hb => ?_) .nil (self_mk (by rw [prK_nx]; omega) prK_r)
    have := prZ_in h hb
    exact ⟨by rw [prK_nx]; omega, fun e => by cases e; omega, prK_old this⟩
  refine { t0 with frm := fun t => ?_ }
  match t with
  | 0 => exact .bad
  | 1 => exact .bad
  | 2 => rw [c2]; exact rS_rel rfl
  | 3 => rw [c3]; exact rS_rel rfl
  | 4 => rw [c4]; exact rS_rel rfl
  | 5 => rw [c5]; exact .ptr rfl
  | n + 6 => exact .bad
theorem set_ne' {K : CH} {p b : Nat} {o : CObj} (h : b ≠ p) : (K.set p o).ob b = K.ob b := by
  simp only [CH.set]
  rw [if_neg h]
theorem tc_wp {T : Tbl} {X : Pan} {f : FuncId} {args : List AV} {Q : AV → List SV → Prop} (h : TC ⟨fun _ => False, fun _ => .dead⟩ T X f args none Q fun _ => False) {K : CH} {vs : List Value} (hv : R2 (AVR K (E0 none fun _ => False)) args vs) : WpF T f vs K fun v K' => HExt K K' ∧ ∃ a s', AVR K' (E0 none fun _ => False) a v ∧ Q a s' := by
  rcases h K none (fun _ => False) vs (fun _ h => h.elim) (fun _ h => h.elim) hv rfl with h | ⟨n, v, H', _, h⟩
  · exact h.mono fun v K' ⟨h1, h2, a, s', h3, _, _, h4⟩ => ⟨⟨h1, fun b hb => h2 b hb (by simp)⟩, a, s', h3, h4⟩
  · exact h.2.2.elim
attribute [local irreducible] TC isT nowT begT placeN
theorem pr_t3 {Z : TP} {X : Pan} {W : Int → Value} {ts : List PT} {sl : Sl} {H : CH} {R : Value → Prop} (C : PCtx Z X W ts sl) : twR Z (tblG Try.prog LG GG) X DT R prP.2.2.1 (prF H) (st0 (rdR sl 0)) fun x fr st => x = .normal ∧ (∃ nt v, st = ⟨nt, [(v, 43, (oR sl 0).2.2), (v, 28, nC 1 (nowT ts 0).line [] 0 (.s (.row 5 [])))]⟩) ∧ fr 2 = rS (pP H.nx) ∧ fr 3 = rS (pP (H.nx + 1)) ∧ fr 4 = rS (pP (H.nx + 2)) ∧ fr 5 = .ptr 0 0 ∧ fr 6 = .ptr 1 0 := by
  have e : prP.2.2.1 = _ := rfl
  conv at e => rhs; reduce
  rw [e]
  clear e
  conv => whnf
  refine now_tc C (Nat.zero_le _) ?_
  conv => whnf
  exact ⟨rfl, ⟨_, _, rfl⟩, rfl, rfl, rfl, rfl, rfl⟩
def prG (H : CH) : TFr := fun t => [.bad, .bad, rS (pP H.nx), rS (pP (H.nx + 1)), rS (pP (H.nx + 2)), .ptr 0 0, .ptr 1 0].getD t .bad
def AccT (acc : List Nd) (c : CV) : Prop := (acc = [] ∧ c = .s (.row 5 [])) ∨ ∃ t, c = .own t 28 5 (ndsS acc)
theorem pr_tL {Z : TP} {X : Pan} {W : Int → Value} {ts : List PT} {sl : Sl} {H : CH} {R : Value → Prop} (C : PCtx Z X W ts sl) {f nt v : Nat} (ih : ∀ m, m < f → PAll Z X W ts sl m) {E : Nat → Prop} {P : List Nd → Nat → Prop} (hG : Gd E P (gr ts f (.top []) 0)) (hE : ∀ e, E e → R (W (nowT ts e).line)) :
    twR Z (tblG Try.prog LG GG) X DT R prP.2.2.2.1 (prG H) ⟨nt, [(v, 43, (oR sl 0).2.2), (v, 28, nC 1 (nowT ts 0).line [] 0 (.s (.row 5 [])))]⟩ fun x fr st => x = .normal ∧ (∃ l j nt u v c, P l j ∧ AccT l c ∧ st = ⟨nt, [(u, 43, (oR sl j).2.2), (v, 28, nC 1 (hdLine (nowT ts 0).line l) [] 0 c)]⟩) ∧ fr 2 = rS (pP H.nx) ∧ fr 3 = rS (pP (H.nx + 1)) ∧ fr 4 = rS (pP (H.nx + 2)) ∧ fr 6 = .ptr 1 0 := by
  have e : prP.2.2.2.1 = _ := rfl
  conv at e => rhs; reduce
  rw [e]
  clear e
  have hlen := C.len
  conv => whnf
  refine loop_0 (fun m s => ∃ acc j c, AccV acc c ∧ s = ⟨1, [oR sl j, oN (nC 1 (hdLine (nowT ts 0).line acc) [] 0 c)]⟩ ∧ j ≤ ts.length ∧ m ≤ f ∧ 2 * acc.length ≤ j ∧ Gd E P (gr ts m (.top acc) j)) f [99] rfl ⟨[], _, _, .inl ⟨rfl, rfl⟩, rfl, by omega, Nat.le_refl _, by simp only [List.length_nil]; omega, hG⟩ ?_
  rintro m f1 s ⟨acc, j, c, hA, rfl, hj, hmf, hb2, hG⟩
  rcases m with _ | m
  · exact hG.elim
  have ihm := ih m (by omega)
  simp only [gr] at hG
  rcases hA with ⟨rfl, rfl⟩ | ⟨hne, rfl⟩
  rotate_left
  rcases acc with _ | ⟨⟨k2, l2, x2, o2, ks2⟩, acc⟩
  · exact absurd rfl hne
  all_goals
    try simp only [List.length_cons, List.length_nil] at hb2
    (conv => whnf)
    refine now_tc C (by omega) ?_
    (conv => whnf)
    generalize hk : ((nowT ts j).kind != Int.ofNat 0) = bb
    cases bb
    · have hk0 : (nowT ts j).kind = 0 := by simpa using hk
      rw [if_pos hk0] at hG
      (conv => whnf)
      first
        | exact ⟨rfl, ⟨_, _, _, _, _, _, hG, .inr ⟨_, rfl⟩, rfl⟩, rfl, rfl, rfl, rfl⟩
        | exact ⟨rfl, ⟨_, _, _, _, _, _, hG, .inl ⟨rfl, rfl⟩, rfl⟩, rfl, rfl, rfl, rfl⟩
    · have hk0 : ¬ (nowT ts j).kind = 0 := by simpa using hk
      rw [if_neg hk0] at hG
      have hlt := kd_lt hk0
      (conv => whnf)
      repeat' first
        | (refine rul_st ihm.stmt hG (by trivial) rfl (by intro e he; first | exact hE e he | exact ⟨True.intro, hE e he⟩) (by omega) ?_; intro n1 l1 x1 o1 ks1 j1 hp1 hj1 hG; simp only [NT.min] at hp1; (conv => whnf))
        | (intro (hmx : _ ≤ maxLen); (conv => whnf))
        | exact ⟨m, [2], by omega, rfl, _, _, _, accV_app rfl, rfl, by omega, by omega, (by simp only [List.length_append, List.length_cons, List.length_nil] at *; omega), hG⟩
        | (refine ⟨rfl, 0, _, rfl, rfl, ?_⟩; (conv => whnf))
        | (refine ⟨rfl, ?_⟩; (conv => whnf))
        | (refine ⟨bdA (by simp only [List.length_append, List.length_cons, List.length_nil, ndsS_len]; omega), ?_⟩; (conv => whnf))
theorem row_slc {K : CH} {A : Nat → Prop} {sz : Nat} {gs : List (List SV)} {w : Value} (h : SVR K A (.row sz gs) w) : ∃ a n c, w = .slice a n c := by
  cases h with
  | row0 => exact ⟨_, _, _, rfl⟩
  | row => exact ⟨_, _, _, rfl⟩
theorem nd_rel {K : CH} {A : Nat → Prop} (hA : ∀ b, A b → b < K.nx) {k : Nat} {l : Int} {x : List UInt8} {o : Nat} {ks : List Nd} {w : Value} (hw : SVR K A (.row 5 (ndsS ks)) w) : R2 (AVR K (E0 none fun _ => False)) [ndA (.mk k l x o ks)] [.agg #[.int .i64 (k : Nat), .int .i64 l, .string ⟨⟨x⟩⟩, .int .i64 (o : Nat), w]] := by
  refine .cons ?_ .nil
  have hw' : SVR K (Frz K (E0 none fun _ => False)) (.row 5 (ndsS ks)) w := hw.mv fun b hb => ⟨⟨hA b hb, fun h => h, (fun _ q => (by cases q)), fun o q => (by
    have q : (if o = 0 then none else none) = some b := q
    split at q <;> cases q)⟩, rfl⟩
  exact .r (.agg (vs := [.int .i64 (k : Nat), .int .i64 l, .string ⟨⟨x⟩⟩, .int .i64 (o : Nat), w]) (.cons (.s (.sc rfl)) (.cons (.s (.sc rfl)) (.cons (.s (.sc rfl)) (.cons (.s (.sc rfl)) (.cons (.s hw') .nil))))))
theorem height_wp {K : CH} {A : Nat → Prop} (hA : ∀ b, A b → b < K.nx) {k : Nat} {l : Int} {x : List UInt8} {o : Nat} {ks : List Nd} {w : Value} (hw : SVR K A (.row 5 (ndsS ks)) w) (hh : htL ks + 1 ≤ 9223372036854775807) : WpF (tblG Try.prog LG GG) 18 [.agg #[.int .i64 (k : Nat), .int .i64 l, .string ⟨⟨x⟩⟩, .int .i64 (o : Nat), w]] K fun v K' => HExt K K' ∧ v = .int .i64 (htL ks + 1 : Nat) :=
  (tc_wp (X := pX) (height_tc (nsz (.mk k l x o ks) + 1) k l x o ks (Nat.lt_succ_self _) hh (fun a _ => a = rS (.int .i64 (htL ks + 1 : Nat))) _ rfl) (nd_rel hA hw)).mono fun v K' ⟨h1, a, s', h2, h3⟩ => ⟨h1, by subst h3; exact raw_rel h2 rfl⟩
def PrO (H : CH) (t : Nd) (ln er : Int) (vs : List Value) (K' : CH) : Prop := HExt H K' ∧ ∃ os, vs = [.agg os.toArray, .int .i64 ln, .int .i64 er] ∧ SVRs K' (fun b => H.nx ≤ b ∧ b < K'.nx) (ndS t) os
theorem pr_rest {H K : CH} {fr : Fr} {b : Nat} {l : List Nd} {ln : Int} {w : Value} (h2 : fr 2 = pP H.nx) (h3 : fr 3 = pP (H.nx + 1)) (h4 : fr 4 = pP (H.nx + 2)) (h6 : fr 6 = pP b) (o2 : K.ob H.nx = .cells [.int .i64 0, .int .i64 0, .string ⟨⟨[]⟩⟩, .int .i64 0, .slice none 0 0] 28 .ex) (o3 : K.ob (H.nx + 1) = .cells [.int .i64 0] 3 .ex) (o4 : K.ob (H.nx + 2) = .cells [.int .i64 0] 29 .ex)
    (o6 : K.ob b = .cells [.int .i64 1, .int .i64 ln, .string ⟨⟨[]⟩⟩, .int .i64 0, w] 28 .ex) (hn : H.nx + 4 ≤ K.nx) (hb : b < K.nx) (hb4 : H.nx + 4 ≤ b) (hw : SVR K (fun b => H.nx + 4 ≤ b ∧ b < K.nx) (.row 5 (ndsS l)) w) (hh : htL l + 1 ≤ 9223372036854775807) (hold : ∀ b, b < H.nx → K.ob b = H.ob b) :
    WpR (tblG Try.prog LG GG) prP.2.2.2.2 fr K fun x fr' K' => x = .ret ∧ ∃ vs, resL fr' K' [.lda 5 2, .ld 3, .ld 4] = some vs ∧ PrO H (if 60 < htL l + 1 then zNd else .mk 1 ln [] 0 l) 0 (if 60 < htL l + 1 then 11 else 0) vs K' := by
  obtain ⟨wa, wn, wc, rfl⟩ : ∃ a n c, w = .slice a n c := by
    exact row_slc hw
  have e : prP.2.2.2.2 = _ := rfl
  conv at e => rhs; reduce
  rw [e]
  clear e
  repeat' (first | (simp (disch := first | omega | (decide +kernel) | (repeat first | assumption | exact HExt.refl _ | refine HExt.set ?_ (by first | omega | (simp only [new_nx, set_nx]; omega)) _ | refine HExt.new ?_ _)) only [↓RD, RU, accW_t, accW_f, isW, ↓putF_get, ↓putF_none, ↓evF_t, ↓evF_c, ↓evF_f, new_nx, set_nx, new_get, set_get, getD_zero, getD_succ, u_not, pop, lop, aop, wop, resL, resV, tupleV, akV, isVal, isCell, Value.cells, ρ0, ρ1, ρ2, ρ3, ρ4, ↓reduceIte, Nat.reduceEqDiff, Nat.reduceAdd, Int.reduceOfNat, Int.reduceNegSucc, reduceCtorEq, ρ5, ρ6, ρ7, ρ8, srcR_c, src_n, src_v, src_s, bnd, lenV, capV, ρ9, ρ10, ρ11, ρ12, ρ13, ρ14, ρ15, ρ16, ρ17, ρ18, ρ19, ρ20, ρ21, ρ22, ρ23, ρ24, Kd.isRo, ρ25, ρ26, bldV, Nat.reduceLeDiff, Int.reduceMul, Int.reduceAdd, Int.reduceSub, Int.reduceToNat, maxLen_eq, zeros_one, appS_some, appV_n, appV_v, appH_t, appH_f, Kd.isEx, ρ27, partV, CH.set_set, lkV, lkR, isKey, mupV, nxtV, ρ28, ρ29, h6, o6]) | (with_reducible first | refine condK_dec (fun _ => ?_) fun _ => ?_ | refine grd_dec (fun _ => ?_) fun _ => ?_ | refine egrd_dec (fun _ => ?_) fun _ => ?_))
  refine (height_wp (k := 1) (x := []) (o := 0) (fun _ h => h.2) hw hh).mono fun v K4 ⟨hx, e⟩ => ?_
  subst e
  have g2 := (hx.ob _ (show H.nx < K.nx by omega)).trans o2
  have g3 := (hx.ob _ (show H.nx + 1 < K.nx by omega)).trans o3
  have g4 := (hx.ob _ (show H.nx + 2 < K.nx by omega)).trans o4
  have g6 := (hx.ob _ hb).trans o6
  have hnx := hx.nx
  have hH4 : HExt H K4 := ⟨by omega, fun b hb => (hx.ob b (by omega)).trans (hold b hb)⟩
  by_cases h60 : 60 < htL l + 1
  · have hb1 : decide ((60 : Int) < ((htL l + 1 : Nat) : Int)) = true := decide_eq_true (by omega)
    repeat' (first | (simp (disch := first | omega | (decide +kernel) | (repeat first | assumption | exact HExt.refl _ | refine HExt.set ?_ (by first | omega | (simp only [new_nx, set_nx]; omega)) _ | refine HExt.new ?_ _)) only [↓RD, RU, accW_t, accW_f, isW, ↓putF_get, ↓putF_none, ↓evF_t, ↓evF_c, ↓evF_f, new_nx, set_nx, new_get, set_get, getD_zero, getD_succ, u_not, pop, lop, aop, wop, resL, resV, tupleV, akV, isVal, isCell, Value.cells, ρ0, ρ1, ρ2, ρ3, ρ4, ↓reduceIte, Nat.reduceEqDiff, Nat.reduceAdd, Int.reduceOfNat, Int.reduceNegSucc, reduceCtorEq, ρ5, ρ6, ρ7, ρ8, srcR_c, src_n, src_v, src_s, bnd, lenV, capV, ρ9, ρ10, ρ11, ρ12, ρ13, ρ14, ρ15, ρ16, ρ17, ρ18, ρ19, ρ20, ρ21, ρ22, ρ23, ρ24, Kd.isRo, ρ25, ρ26, bldV, Nat.reduceLeDiff, Int.reduceMul, Int.reduceAdd, Int.reduceSub, Int.reduceToNat, maxLen_eq, zeros_one, appS_some, appV_n, appV_v, appH_t, appH_f, Kd.isEx, ρ27, partV, CH.set_set, lkV, lkR, isKey, mupV, nxtV, ρ28, ρ29, h2, h3, h4, g2, g3, g4, hb1]) | (with_reducible first | refine condK_dec (fun _ => ?_) fun _ => ?_ | refine grd_dec (fun _ => ?_) fun _ => ?_ | refine egrd_dec (fun _ => ?_) fun _ => ?_))
    exact ⟨_, rfl, ((hH4.set (Nat.le_refl _) _).set (by omega) _).set (by omega) _, _, rfl, .cons (.sc rfl) (.cons (.sc rfl) (.cons (.sc rfl) (.cons (.sc rfl) (.cons .row0 .nil))))⟩
  · have hb1 : decide ((60 : Int) < ((htL l + 1 : Nat) : Int)) = false := decide_eq_false (by omega)
    repeat' (first | (simp (disch := first | omega | (decide +kernel) | (repeat first | assumption | exact HExt.refl _ | refine HExt.set ?_ (by first | omega | (simp only [new_nx, set_nx]; omega)) _ | refine HExt.new ?_ _)) only [↓RD, RU, accW_t, accW_f, isW, ↓putF_get, ↓putF_none, ↓evF_t, ↓evF_c, ↓evF_f, new_nx, set_nx, new_get, set_get, getD_zero, getD_succ, u_not, pop, lop, aop, wop, resL, resV, tupleV, akV, isVal, isCell, Value.cells, ρ0, ρ1, ρ2, ρ3, ρ4, ↓reduceIte, Nat.reduceEqDiff, Nat.reduceAdd, Int.reduceOfNat, Int.reduceNegSucc, reduceCtorEq, ρ5, ρ6, ρ7, ρ8, srcR_c, src_n, src_v, src_s, bnd, lenV, capV, ρ9, ρ10, ρ11, ρ12, ρ13, ρ14, ρ15, ρ16, ρ17, ρ18, ρ19, ρ20, ρ21, ρ22, ρ23, ρ24, Kd.isRo, ρ25, ρ26, bldV, Nat.reduceLeDiff, Int.reduceMul, Int.reduceAdd, Int.reduceSub, Int.reduceToNat, maxLen_eq, zeros_one, appS_some, appV_n, appV_v, appH_t, appH_f, Kd.isEx, ρ27, partV, CH.set_set, lkV, lkR, isKey, mupV, nxtV, ρ28, ρ29, h2, h3, h4, h6, g2, g3, g4, g6, hb1]) | (with_reducible first | refine condK_dec (fun _ => ?_) fun _ => ?_ | refine grd_dec (fun _ => ?_) fun _ => ?_ | refine egrd_dec (fun _ => ?_) fun _ => ?_))
    refine ⟨_, rfl, ((hH4.set (Nat.le_refl _) _).set (by omega) _).set (by omega) _, _, rfl, .cons (.sc rfl) (.cons (.sc rfl) (.cons (.sc rfl) (.cons (.sc rfl) (.cons (hw.mv fun b hb => ⟨⟨by omega, Nat.lt_of_lt_of_le hb.2 hnx⟩, ?_⟩) .nil))))⟩
    rw [set_ne' (by omega), set_ne' (by omega), set_ne' (by omega)]
    exact hx.ob b hb.2
end Can
end Go.Proofs.Ytnkfdkfmdeibfaa
end
section
namespace Go.Proofs.Ytnkfdkfmdeibfaa
namespace Can
open Go Go.RowKit
set_option linter.unusedSimpArgs false
set_option linter.unusedVariables false
set_option maxRecDepth 4000
theorem gd_eval {H K : CH} {l : Int} (o2 : K.ob H.nx = .cells [.int .i64 0, .int .i64 0, .string ⟨⟨[]⟩⟩, .int .i64 0, .slice none 0 0] 28 .ex) (o3 : K.ob (H.nx + 1) = .cells [.int .i64 0] 3 .ex) (o4 : K.ob (H.nx + 2) = .cells [.int .i64 0] 29 .ex) (hn : H.nx + 4 ≤ K.nx) :
    gdG [pP H.nx, pP (H.nx + 1), pP (H.nx + 2)] (wrV l) K ((((gdH K l).set H.nx (.cells [.int .i64 0, .int .i64 0, .string ⟨⟨[]⟩⟩, .int .i64 0, .slice none 0 0] 28 .ex)).set (H.nx + 1) (.cells [.int .i64 l] 3 .ex)).set (H.nx + 2) (.cells [.int .i64 22] 29 .ex)) := by
  refine ⟨rfl, l, rfl, ?_⟩
  unfold gdH
  conv in gdD => reduce
  have hn0 : H.nx ≠ K.nx := by omega
  have hn1 : H.nx + 1 ≠ K.nx := by omega
  have hn2 : H.nx + 2 ≠ K.nx := by omega
  repeat' (first | (simp (disch := first | omega | (decide +kernel) | (repeat first | assumption | exact HExt.refl _ | refine HExt.set ?_ (by first | omega | (simp only [new_nx, set_nx]; omega)) _ | refine HExt.new ?_ _)) only [↓RD, RU, accW_t, accW_f, isW, ↓putF_get, ↓putF_none, ↓evF_t, ↓evF_c, ↓evF_f, new_nx, set_nx, new_get, set_get, getD_zero, getD_succ, u_not, pop, lop, aop, wop, resL, resV, tupleV, akV, isVal, isCell, Value.cells, ρ0, ρ1, ρ2, ρ3, ρ4, ↓reduceIte, Nat.reduceEqDiff, Nat.reduceAdd, Int.reduceOfNat, Int.reduceNegSucc, reduceCtorEq, ρ5, ρ6, ρ7, ρ8, srcR_c, src_n, src_v, src_s, bnd, lenV, capV, ρ9, ρ10, ρ11, ρ12, ρ13, ρ14, ρ15, ρ16, ρ17, ρ18, ρ19, ρ20, ρ21, ρ22, ρ23, ρ24, Kd.isRo, ρ25, ρ26, bldV, Nat.reduceLeDiff, Int.reduceMul, Int.reduceAdd, Int.reduceSub, Int.reduceToNat, maxLen_eq, zeros_one, appS_some, appV_n, appV_v, appH_t, appH_f, Kd.isEx, ρ27, partV, CH.set_set, lkV, lkR, isKey, mupV, nxtV, ρ28, ρ29, o2, o3, o4, hn0, hn1, hn2]) | (with_reducible first | refine condK_dec (fun _ => ?_) fun _ => ?_ | refine grd_dec (fun _ => ?_) fun _ => ?_ | refine egrd_dec (fun _ => ?_) fun _ => ?_))
theorem fn_ok {P : Program} {f : Nat} (h : (resFunc P (fun N ops => resD P N ops) f).isSome = true) : FuncOk P f (rF P f) := by
  refine resFunc_ok (fun N ops d h => resD_ok h) (rd := fun N ops => resD P N ops) ?_
  unfold rF
  cases hr : resFunc P (fun N ops => resD P N ops) f with
  | none => rw [hr] at h; cases h
  | some r => rfl
theorem prK_2 {H : CH} {sl : Sl} : (prK H sl).ob H.nx = .cells [.int .i64 0, .int .i64 0, .string ⟨⟨[]⟩⟩, .int .i64 0, .slice none 0 0] 28 .ex := by
  unfold prK
  rw [new_ne (by simp only [new_nx]; omega), new_ne (by simp only [new_nx]; omega), new_ne (by simp only [new_nx]; omega)]
  exact new_get.trans (if_pos rfl)
theorem prK_3 {H : CH} {sl : Sl} : (prK H sl).ob (H.nx + 1) = .cells [.int .i64 0] 3 .ex := by
  unfold prK
  rw [new_ne (by simp only [new_nx]; omega), new_ne (by simp only [new_nx]; omega)]
  exact new_get.trans (if_pos rfl)
theorem prK_4 {H : CH} {sl : Sl} : (prK H sl).ob (H.nx + 2) = .cells [.int .i64 0] 29 .ex := by
  unfold prK
  rw [new_ne (by simp only [new_nx]; omega)]
  exact new_get.trans (if_pos rfl)
def PrQ (H : CH) (ts : List PT) (v : Value) (H' : CH) : Prop := ∃ vs, v = tupleV vs ∧ PrO H (parseT ts).1 (parseT ts).2.1 (parseT ts).2.2 vs H'
theorem top_gd {ts : List PT} : Gd (fun e => gr ts (ts.length * 64 + 100) (.top []) 0 = some (.error e)) (fun l j => gr ts (ts.length * 64 + 100) (.top []) 0 = some (.ok (l, j)) ∧ htL l + 1 ≤ 64 * ts.length + 2) (gr ts (ts.length * 64 + 100) (.top []) 0) := by
  have h1 := gr_gd (ts := ts) (ts.length * 64 + 100) (.top []) 0 trivial (Nat.zero_le _) (by simp only [NT.rank]; omega)
  have h2 := gr_ht (ts := ts) (ts.length * 64 + 100) (.top []) 0 trivial (Nat.zero_le _) (by simp only [NT.rank]; omega)
  match h : gr ts (ts.length * 64 + 100) (.top []) 0, h1, h2 with
  | some (.error e), _, _ => exact rfl
  | some (.ok (l, j)), h1, h2 =>
    refine ⟨rfl, ?_⟩
    have h3 : szL l + 64 * 0 + 0 ≤ 0 + 64 * j + 0 := h2
    have h4 := h1.2.1
    have h5 := ht_szL l
    omega
theorem cS_inv {K : CH} {E : TE} {v w : Value} (h : CVR K E (cS v) w) : w = v := by
  cases h with
  | s h => cases h; rfl
theorem own_row {K : CH} {E : TE} {A : Nat → Prop} {t sz : Nat} {e : TypeId} {gs : List (List SV)} {w : Value} (h : CVR K E (.own t e sz gs) w) (h1 : ∀ b, Frz K E b → A b) (h2 : ∀ b, E.σ t = some b → A b) : SVR K A (.row sz gs) w := by
  cases h with
  | own0 => exact .row0
  | own hne hb ho hk hg hs => exact .row hne (h2 _ hb) ho hk hg (hs.mv fun b hb => ⟨h1 b hb, rfl⟩)
theorem parse_call {H : CH} {sl : Sl} {ts : List PT} (h : SlAt 3 CTk H sl.q sl.c ts) (hn : sl.n = ts.length) (hlen : ts.length ≤ 4398046510976) : ∃ v H', PrQ H ts v H' ∧ ∀ B, CallC Try.prog B 8 [.slice sl.q sl.n sl.c] H v H' := by
  refine guard_calls (T := (tblG Try.prog LG GG)) (X := pX) (G := gdG) (g := 14) (d := 10) (x1 := 2) (x2 := 3) (x3 := 4) (fun B => tg_ok) (fun B f args H v H' => fail_ok) (fn_ok (by kernel_rfl)) pr_body (by rfl) (by kernel_rfl) (Nat.lt_of_lt_of_eq (by decide : 10 < 37) (by kernel_rfl : 37 = (rF Try.prog 8).ntmps)) gd_ret (fun B => gd_pan) ?_
  refine (pr_r0 (sl := sl) rfl).mono fun x fr1 H1 ⟨hx, hw⟩ => ⟨hx, hw.mono fun x fr2 H2 ⟨hx, c2, c3, c4, c5, e⟩ => ⟨hx, ?_⟩⟩
  subst e
  have C := pctx (prZ_ok h hn) hlen
  have hc : ∀ t, t ≠ 10 → putF fr2 (some 10) undef t = fr2 t := fun t ht => if_neg ht
  have t0 := pr_start (cfr := putF fr2 (some 10) undef) h ((hc 2 (by decide)).trans c2) ((hc 3 (by decide)).trans c3) ((hc 4 (by decide)).trans c4) ((hc 5 (by decide)).trans c5)
  let Rp : Value → Prop := fun v => ∃ e, gr ts (ts.length * 64 + 100) (.top []) 0 = some (.error e) ∧ v = wrV (nowT ts e).line
  have hpan : ∀ v K3, PX (prK H sl) (some (H.nx + 3)) Rp v K3 → ∃ H4, gdG [fr2 2, fr2 3, fr2 4] v K3 H4 ∧ ∃ vs, resL (mskF (.seq prP.2.2.1 (.seq prP.2.2.2.1 prP.2.2.2.2)) (putF fr2 (some 10) undef)) H4 (rF Try.prog 8).res = some vs ∧ PrQ H ts (tupleV vs) H4 := by
    rintro v K3 ⟨g1, g2, e, hg, rfl⟩
    rw [prK_nx] at g1 g2
    have o2 := (g2 H.nx (by omega) (fun e => by injection e; omega)).trans prK_2
    have o3 := (g2 (H.nx + 1) (by omega) (fun e => by injection e; omega)).trans prK_3
    have o4 := (g2 (H.nx + 2) (by omega) (fun e => by injection e; omega)).trans prK_4
    rw [c2, c3, c4]
    refine ⟨_, gd_eval o2 o3 o4 g1, ?_⟩
    have hH3 : HExt H K3 := ⟨by omega, fun b hb => (g2 b (by omega) (fun e => by injection e; omega)).trans (prK_old hb)⟩
    have hm : ∀ t, t ≠ 10 → (wrR (.seq prP.2.2.1 (.seq prP.2.2.2.1 prP.2.2.2.2))).elem t = false → mskF (.seq prP.2.2.1 (.seq prP.2.2.2.1 prP.2.2.2.2)) (putF fr2 (some 10) undef) t = fr2 t := fun t ht hw => by
      unfold mskF
      rw [hw]
      exact hc t ht
    have m2 := (hm 2 (by decide) (by kernel_rfl)).trans c2
    have m3 := (hm 3 (by decide) (by kernel_rfl)).trans c3
    have m4 := (hm 4 (by decide) (by kernel_rfl)).trans c4
    rw [pr_res]
    unfold gdH
    have hn0 : H.nx ≠ K3.nx := by omega
    have hn1 : H.nx + 1 ≠ K3.nx := by omega
    have hn2 : H.nx + 2 ≠ K3.nx := by omega
    repeat' (first | (simp (disch := first | omega | (decide +kernel) | (repeat first | assumption | exact HExt.refl _ | refine HExt.set ?_ (by first | omega | (simp only [new_nx, set_nx]; omega)) _ | refine HExt.new ?_ _)) only [↓RD, RU, accW_t, accW_f, isW, ↓putF_get, ↓putF_none, ↓evF_t, ↓evF_c, ↓evF_f, new_nx, set_nx, new_get, set_get, getD_zero, getD_succ, u_not, pop, lop, aop, wop, resL, resV, tupleV, akV, isVal, isCell, Value.cells, ρ0, ρ1, ρ2, ρ3, ρ4, ↓reduceIte, Nat.reduceEqDiff, Nat.reduceAdd, Int.reduceOfNat, Int.reduceNegSucc, reduceCtorEq, ρ5, ρ6, ρ7, ρ8, srcR_c, src_n, src_v, src_s, bnd, lenV, capV, ρ9, ρ10, ρ11, ρ12, ρ13, ρ14, ρ15, ρ16, ρ17, ρ18, ρ19, ρ20, ρ21, ρ22, ρ23, ρ24, Kd.isRo, ρ25, ρ26, bldV, Nat.reduceLeDiff, Int.reduceMul, Int.reduceAdd, Int.reduceSub, Int.reduceToNat, maxLen_eq, zeros_one, appS_some, appV_n, appV_v, appH_t, appH_f, Kd.isEx, ρ27, partV, CH.set_set, lkV, lkR, isKey, mupV, nxtV, ρ28, ρ29, m2, m3, m4, o2, o3, o4, hn0, hn1, hn2]) | (with_reducible first | refine condK_dec (fun _ => ?_) fun _ => ?_ | refine grd_dec (fun _ => ?_) fun _ => ?_ | refine egrd_dec (fun _ => ?_) fun _ => ?_))
    refine ⟨_, rfl, [_, _, _], rfl, ?_⟩
    have ht : parseT ts = (zNd, (nowT ts e).line, 22) := by unfold parseT; rw [hg]
    rw [ht]
    exact ⟨((((hH3.new _).set (by omega) _).set (Nat.le_refl _) _).set (by omega) _).set (by omega) _, _, rfl, .cons (.sc rfl) (.cons (.sc rfl) (.cons (.sc rfl) (.cons (.sc rfl) (.cons .row0 .nil))))⟩
  refine wxR_seq ((twR_sound dt_ok t0 (pr_t3 (R := Rp) C)).mono ?_ hpan)
  rintro x cfr3 K3 ⟨fr3, st3, E3, t1, s1, rfl, ⟨nt, u, rfl⟩, g2, g3, g4, g5, g6⟩
  have t1' : TR (prZ H sl) (prK H sl) (some (H.nx + 3)) K3 ⟨nt, [(u, 43, (oR sl 0).2.2), (u, 28, nC 1 (nowT ts 0).line [] 0 (.s (.row 5 [])))]⟩ (prG H) cfr3 E3 := by
    refine { t1 with frm := fun t => ?_ }
    match t with
    | 0 => exact .bad
    | 1 => exact .bad
    | 2 => have := t1.frm 2; rw [g2] at this; exact this
    | 3 => have := t1.frm 3; rw [g3] at this; exact this
    | 4 => have := t1.frm 4; rw [g4] at this; exact this
    | 5 => have := t1.frm 5; rw [g5] at this; exact this
    | 6 => have := t1.frm 6; rw [g6] at this; exact this
    | n + 7 => exact .bad
  show WxR (tblG Try.prog LG GG) pX (.seq prP.2.2.2.1 prP.2.2.2.2) cfr3 K3 _ _
  refine wxR_seq ((twR_sound dt_ok t1' (pr_tL C (fun m _ => pall C m) top_gd fun e he => ⟨e, he, rfl⟩)).mono ?_ hpan)
  rintro x cfr4 K4 ⟨fr4, st4, E4, t2, s2, rfl, ⟨l, j, nt2, u1, u2, c, ⟨hgr, hht⟩, hacc, rfl⟩, g2, g3, g4, g6⟩
  have hp : ∀ t l, fr4 t = rS (pP l) → cfr4 t = pP l := fun t l e => by
    have := t2.frm t
    rw [e] at this
    exact raw_rel this rfl
  have hhid : E4.hid = fun b => b < H.nx + 4 ∧ b ≠ H.nx + 3 := s2.hid.trans s1.hid
  have hr0 : E4.ρ 0 = some (H.nx + 3) := s2.rho _ _ (s1.rho _ _ rfl)
  obtain ⟨b, os, hb1, hb2, hb3⟩ := t2.obs 1 _ _ _ rfl
  have h6 : cfr4 6 = pP b := by
    have := t2.frm 6
    rw [g6] at this
    obtain ⟨b', q1, q2⟩ := this.ptr_inv
    rw [hb1] at q1; cases q1
    exact q2
  obtain ⟨hbn, hbk, _⟩ := t2.rho 1 b hb1
  have hne3 : b ≠ H.nx + 3 := fun e => by
    have := t2.rinj 0 1 b (by rw [hr0, e]) hb1
    cases this
  have hb4 : H.nx + 4 ≤ b := by
    rcases hbk with q | q
    · rw [prK_nx] at q; exact q
    · injection q with q; exact absurd q.symm hne3
  have hnx := t2.nx
  rw [prK_nx] at hnx
  have hfz : ∀ b, Frz K4 E4 b → H.nx + 4 ≤ b ∧ b < K4.nx := fun b ⟨f1, f2, f3, f4⟩ => by
    rw [hhid] at f2
    have : b ≠ H.nx + 3 := fun e => f4 0 (by rw [hr0, e])
    exact ⟨by omega, f1⟩
  have hkeep : ∀ b, b < H.nx + 3 → K4.ob b = (prK H sl).ob b := fun b hb => t2.keep b (by rw [prK_nx]; omega) (fun e => by injection e; omega)
  have hw : ∀ w, CVR K4 E4 c w → SVR K4 (fun b => H.nx + 4 ≤ b ∧ b < K4.nx) (.row 5 (ndsS l)) w := fun w hc => by
    rcases hacc with ⟨rfl, rfl⟩ | ⟨t, rfl⟩
    · cases hc with
      | s h => exact h.mv fun b hb => ⟨hfz b hb, rfl⟩
    · exact own_row hc hfz fun b hb => ⟨by have := (t2.sig t b hb).1; rw [prK_nx] at this; exact this, (t2.sig t b hb).2.1⟩
  cases hb3 with | cons a1 hb3 =>
  cases hb3 with | cons a2 hb3 =>
  cases hb3 with | cons a3 hb3 =>
  cases hb3 with | cons a4 hb3 =>
  cases hb3 with | cons a5 hb3 =>
  cases hb3
  have e1 := cS_inv a1
  have e2 := cS_inv a2
  have e3 := cS_inv a3
  have e4 := cS_inv a4
  subst e1 e2 e3 e4
  refine .inl ((pr_rest (H := H) (hp 2 _ g2) (hp 3 _ g3) (hp 4 _ g4) h6 ((hkeep _ (by omega)).trans prK_2) ((hkeep _ (by omega)).trans prK_3) ((hkeep _ (by omega)).trans prK_4) hb2 hnx hbn hb4 (hw _ a5) (by omega) fun b hb => (hkeep b (by omega)).trans (prK_old hb)).mono fun x fr' K' ⟨q1, vs, q2, q3⟩ => ⟨.inr q1, vs, ?_, vs, rfl, ?_⟩)
  · rw [pr_res]; exact q2
  · have ht : parseT ts = if 60 < htL l + 1 then (zNd, 0, 11) else (nd 1 (hdLine (nowT ts 0).line l) l, 0, 0) := by unfold parseT; rw [hgr]
    rw [ht]
    by_cases h60 : 60 < htL l + 1
    · rw [if_pos h60, if_pos h60] at q3
      rw [if_pos h60]
      exact q3
    · rw [if_neg h60, if_neg h60] at q3
      rw [if_neg h60]
      exact q3
end Can
end Go.Proofs.Ytnkfdkfmdeibfaa
end
section
namespace Go.Proofs.Ytnkfdkfmdeibfaa
namespace Can
open Go Go.RowKit
set_option linter.unusedSimpArgs false
set_option linter.unusedVariables false
set_option maxRecDepth 4000
noncomputable def runM (n : Nat) (f : FuncId) (args : List Value) (H : CH) : Option (Value × CH) :=
  (evHc LG GG (resFunc Try.prog (fun N ops => resD Try.prog N ops)) (resLoop Try.prog (fun N ops => resD Try.prog N ops)) n).call f args H
theorem wpF_runM {n : Nat} {f : FuncId} {args : List Value} {H : CH} {r : Value × CH} (h : runM n f args H = some r) : WpF (tblG Try.prog LG GG) f args H fun v K => v = r.1 ∧ K = r.2 :=
  ⟨n, r.1, r.2, (evHc_ok (T := tblG Try.prog LG GG) (fun _ => rfl) (fun _ _ _ => rfl) n).call _ _ _ _ h, rfl, rfl⟩
def bsV (l : List UInt8) : List Value := l.map fun b => .int .u8 b.toNat
def src1 : List UInt8 := [97, 32, 61, 32, 98, 44, 32, 49]
def src2 : List UInt8 := [98, 10, 49, 32, 61, 32, 97]
noncomputable def lexR (l : List UInt8) : Option (Value × CH) := runM 200 19 [.slice (some ⟨0, 0, none⟩) l.length l.length] (noH.new (.cells (bsV l) 5 .ex))
def toks1 : List PT := [⟨4, 1, [97]⟩, ⟨9, 1, [61]⟩, ⟨4, 1, [98]⟩, ⟨9, 1, [44]⟩, ⟨5, 1, [49]⟩, ⟨1, 1, []⟩, ⟨0, 1, []⟩]
def toks2 : List PT := [⟨4, 1, [98]⟩, ⟨1, 1, []⟩, ⟨5, 2, [49]⟩, ⟨9, 2, [61]⟩, ⟨4, 2, [97]⟩, ⟨1, 2, []⟩, ⟨0, 2, []⟩]
def slL : Value → Nat
  | .tuple #[.slice (some ⟨l, 0, none⟩) m c, _, _] => l
  | _ => 0
noncomputable def lexL (l : List UInt8) : Nat := ((lexR l).map fun r => slL r.1).getD 0
theorem lex1 : (lexR src1).map (fun r => (r.1, r.2.ob 0, r.2.ob (slL r.1), Nat.beq (slL r.1) 0)) = some (.tuple #[.slice (some ⟨lexL src1, 0, none⟩) 7 7, .int .i64 0, .int .i64 0], .cells (bsV src1) 5 .ex, .cells ((toks1.map tokV).flatten) 25 .gr, false) := by kernel_rfl
theorem lex2 : (lexR src2).map (fun r => (r.1, r.2.ob 0, r.2.ob (slL r.1), Nat.beq (slL r.1) 0)) = some (.tuple #[.slice (some ⟨lexL src2, 0, none⟩) 7 7, .int .i64 0, .int .i64 0], .cells (bsV src2) 5 .ex, .cells ((toks2.map tokV).flatten) 25 .gr, false) := by kernel_rfl
theorem lex_call {src : List UInt8} {ts : List PT} {m c : Nat} (h : (lexR src).map (fun r => (r.1, r.2.ob 0, r.2.ob (slL r.1), Nat.beq (slL r.1) 0)) = some (.tuple #[.slice (some ⟨lexL src, 0, none⟩) m c, .int .i64 0, .int .i64 0], .cells (bsV src) 5 .ex, .cells ((ts.map tokV).flatten) 25 .gr, false)) {H : CH} {p : Nat} (hp : H.ob p = .cells (bsV src) 5 .ex) :
    ∀ B, CallC Try.prog B 19 [.slice (some ⟨p, 0, none⟩) src.length src.length] H (.tuple #[.slice (some ⟨H.nx, 0, none⟩) m c, .int .i64 0, .int .i64 0]) (H.new (.cells ((ts.map tokV).flatten) 25 .gr)) := by
  cases hr : lexR src with
  | none => rw [hr] at h; cases h
  | some r =>
    rw [hr] at h
    simp only [Option.map_some, Option.some.injEq, Prod.mk.injEq] at h
    obtain ⟨h1, h2, h3, h4⟩ := h
    have hl : slL r.1 = lexL src := by rw [h1]; rfl
    rw [hl] at h3 h4
    have h0 : lexL src ≠ 0 := fun e => by rw [e] at h4; cases h4
    refine call_frame (l := lexL src) (H1 := r.2) ?_ ?_ rfl rfl (fun B => ?_) h2 h3 h0 (by simp) hp
    · simp [closedC, bsV, closedV]
    · simp only [closedC, List.all_eq_true]
      intro v hv
      obtain ⟨l, hl, hv⟩ := List.mem_flatten.1 hv
      obtain ⟨t, _, rfl⟩ := List.mem_map.1 hl
      simp only [tokV, List.mem_cons, List.not_mem_nil, or_false] at hv
      rcases hv with rfl | rfl | rfl <;> rfl
    · obtain ⟨v, K, ⟨e1, e2⟩, hc⟩ := tell_wp (T := (tblG Try.prog LG GG)) (fun B => tg_ok) (by kernel_rfl) (wpF_runM hr)
      have := hc B
      rw [e1, h1, e2] at this
      exact this
end Can
end Go.Proofs.Ytnkfdkfmdeibfaa
end
section
namespace Go.Proofs.Ytnkfdkfmdeibfaa
namespace Can
open Go Go.RowKit
set_option linter.unusedSimpArgs false
set_option linter.unusedVariables false
set_option maxRecDepth 4000
def LexV (src : List UInt8) (ts : List PT) (args : List Value) (H : CH) (v : Value) (H' : CH) : Prop := ∀ p, args = [.slice (some ⟨p, 0, none⟩) src.length src.length] → H.ob p = .cells (bsV src) 5 .ex → v = .tuple #[.slice (some ⟨H.nx, 0, none⟩) 7 7, .int .i64 0, .int .i64 0] ∧ H' = H.new (.cells ((ts.map tokV).flatten) 25 .gr)
def SP : Spec := fun f args H v H' => (f = 8 → ∀ (sl : Sl) (ts : List PT), args = [.slice sl.q sl.n sl.c] → SlAt 3 CTk H sl.q sl.c ts → sl.n = ts.length → ts.length ≤ 4398046510976 → PrQ H ts v H') ∧ (f = 19 → LexV src1 toks1 args H v H' ∧ LexV src2 toks2 args H v H')
noncomputable abbrev TL : Tbl := tblS Try.prog LG GG [8, 19] SP
theorem tl_ok {B : Nat} : TblOk Try.prog B TL := tblS_ok GG_ok
theorem tok_inj {a b : PT} (h : tokV a = tokV b) : a = b := by
  cases a; cases b
  simp only [tokV, List.cons.injEq, Value.int.injEq, Value.string.injEq, true_and, and_true] at h
  obtain ⟨rfl, rfl, h⟩ := h
  injection h with h
  injection h with h
  subst h; rfl
theorem slat_inj {H : CH} {q : Option Addr} {c : Nat} {ts us : List PT} (h : SlAt 3 CTk H q c ts) (g : SlAt 3 CTk H q c us) (hl : ts.length = us.length) : ts = us := by
  refine List.ext_getElem hl fun i h1 h2 => ?_
  obtain ⟨l, o, os, e, kd, q1, o1, _, _, r1, _⟩ := tk_get h h1
  obtain ⟨l', o', os', e', kd', q2, o2, _, _, r2, _⟩ := tk_get g h2
  rw [q1] at q2; cases q2
  rw [o1] at o2; cases o2
  exact tok_inj (r1.symm.trans r2)
theorem parse_wp {H : CH} {sl : Sl} {ts : List PT} (h : SlAt 3 CTk H sl.q sl.c ts) (hn : sl.n = ts.length) (hlen : ts.length ≤ 4398046510976) : WpF TL 8 [.slice sl.q sl.n sl.c] H fun v H' => PrQ H ts v H' := by
  obtain ⟨v, H', h1, h2⟩ := parse_call h hn hlen
  refine wpF_tell rfl ⟨v, H', ⟨fun _ sl' ts' he h' hn' _ => ?_, fun e => by cases e⟩, h2⟩ fun v H' hS => hS.1 rfl sl ts rfl h hn hlen
  cases sl; cases sl'
  cases he
  rw [slat_inj h' h (hn'.symm.trans hn)]
  exact h1
theorem lex1_wp {H : CH} {p : Nat} (hp : H.ob p = .cells (bsV src1) 5 .ex) : WpF TL 19 [.slice (some ⟨p, 0, none⟩) 8 8] H fun v H' => v = .tuple #[.slice (some ⟨H.nx, 0, none⟩) 7 7, .int .i64 0, .int .i64 0] ∧ H' = H.new (.cells ((toks1.map tokV).flatten) 25 .gr) := by
  refine wpF_tell rfl ⟨_, _, ⟨fun e => (by cases e), fun _ => ⟨fun p' he hp' => ⟨rfl, rfl⟩, fun p' he hp' => ?_⟩⟩, lex_call lex1 hp⟩ fun v H' hS => (hS.2 rfl).1 p rfl hp
  cases he
theorem lex2_wp {H : CH} {p : Nat} (hp : H.ob p = .cells (bsV src2) 5 .ex) : WpF TL 19 [.slice (some ⟨p, 0, none⟩) 7 7] H fun v H' => v = .tuple #[.slice (some ⟨H.nx, 0, none⟩) 7 7, .int .i64 0, .int .i64 0] ∧ H' = H.new (.cells ((toks2.map tokV).flatten) 25 .gr) := by
  refine wpF_tell rfl ⟨_, _, ⟨fun e => (by cases e), fun _ => ⟨fun p' he hp' => ?_, fun p' he hp' => ⟨rfl, rfl⟩⟩⟩, lex_call lex2 hp⟩ fun v H' hS => (hS.2 rfl).2 p rfl hp
  cases he
def D0 : TD := ⟨[]⟩
section
variable {Z : TP} {X : Pan}
attribute [local irreducible] TC
end
end Can
end Go.Proofs.Ytnkfdkfmdeibfaa
end
section
namespace Go.Proofs.Ytnkfdkfmdeibfaa
namespace Can
open Go Go.RowKit
set_option linter.unusedSimpArgs false
set_option linter.unusedVariables false
set_option maxRecDepth 4000
def tree1 : Nd := nd 1 1 [nd 3 1 [.mk 36 1 [97] 0 [], nd 52 1 [.mk 36 1 [98] 0 [], .mk 30 1 [49] 0 []]]]
theorem parse1 : parseT toks1 = (tree1, 0, 0) := by kernel_rfl
theorem parse2 : parseT toks2 = (zNd, 2, 22) := by kernel_rfl
theorem slat_row {K : CH} {b : Nat} {ts : List PT} {e : TypeId} {k : Kd} (hb : b < K.nx) (ho : K.ob b = .cells ((ts.map tokV).flatten) e k) (hl : ts.length ≤ maxLen) : SlAt 3 CTk K (some ⟨b, 0, none⟩) ts.length ts := by
  have hfl : ((ts.map tokV).flatten).length = ts.length * 3 := by
    rw [flat_len' (sz := 3) (fun g hg => by obtain ⟨t, _, rfl⟩ := List.mem_map.1 hg; rfl), List.length_map]
  refine .inr ⟨b, 0, _, e, k, rfl, hb, Nat.le_refl _, hl, ho, by omega, fun i h => ?_⟩
  have hg : (ts.map tokV)[i]? = some (tokV ts[i]) := by simp [h]
  have := (flat_grp (sz := 3) (gs := ts.map tokV) (fun g hg => by obtain ⟨t, _, rfl⟩ := List.mem_map.1 hg; rfl) hg).1
  show ((((ts.map tokV).flatten).drop (0 + i * 3)).take 3) = tokV ts[i]
  rw [Nat.zero_add]
  exact this
theorem nd_cells {K : CH} {A : Nat → Prop} {t : Nd} {os : List Value} (h : SVRs K A (ndS t) os) : ∃ k l x o wa wn wc, os = [.int .i64 k, .int .i64 l, .string x, .int .i64 o, .slice wa wn wc] := by
  cases t
  cases h with | cons a1 h =>
  cases h with | cons a2 h =>
  cases h with | cons a3 h =>
  cases h with | cons a4 h =>
  cases h with | cons a5 h =>
  cases h
  cases a1
  cases a2
  cases a3
  cases a4
  obtain ⟨wa, wn, wc, rfl⟩ := row_slc a5
  exact ⟨_, _, _, _, _, _, _, rfl⟩
theorem source_wp {H : CH} {q : Option Addr} {n c : Nat} {ts : List PT} (hl : ts.length ≤ 4398046510976) (hlen : ts.length = 7) (hx : ∀ K, HExt H K → WpF TL 19 [.slice q n c] K fun v H' => v = .tuple #[.slice (some ⟨K.nx, 0, none⟩) 7 7, .int .i64 0, .int .i64 0] ∧ H' = K.new (.cells ((ts.map tokV).flatten) 25 .gr)) :
    WpF TL 10 [.slice q n c] H fun v K => PrQ H ts v K := by
  refine wpF_rS (by rfl) (by kernel_rfl) ?_
  conv in (rF _ _).body => reduce
  conv in (rF _ _).res => reduce
  repeat' (first | (simp (disch := first | omega | (decide +kernel) | (repeat first | assumption | exact HExt.refl _ | refine HExt.set ?_ (by first | omega | (simp only [new_nx, set_nx]; omega)) _ | refine HExt.new ?_ _)) only [↓RD, RU, accW_t, accW_f, isW, ↓putF_get, ↓putF_none, ↓evF_t, ↓evF_c, ↓evF_f, new_nx, set_nx, new_get, set_get, getD_zero, getD_succ, u_not, pop, lop, aop, wop, resL, resV, tupleV, akV, isVal, isCell, Value.cells, ρ0, ρ1, ρ2, ρ3, ρ4, ↓reduceIte, Nat.reduceEqDiff, Nat.reduceAdd, Int.reduceOfNat, Int.reduceNegSucc, reduceCtorEq, ρ5, ρ6, ρ7, ρ8, srcR_c, src_n, src_v, src_s, bnd, lenV, capV, ρ9, ρ10, ρ11, ρ12, ρ13, ρ14, ρ15, ρ16, ρ17, ρ18, ρ19, ρ20, ρ21, ρ22, ρ23, ρ24, Kd.isRo, ρ25, ρ26, bldV, Nat.reduceLeDiff, Int.reduceMul, Int.reduceAdd, Int.reduceSub, Int.reduceToNat, maxLen_eq, zeros_one, appS_some, appV_n, appV_v, appH_t, appH_f, Kd.isEx, ρ27, partV, CH.set_set, lkV, lkR, isKey, mupV, nxtV, ρ28, ρ29]) | (with_reducible first | refine condK_dec (fun _ => ?_) fun _ => ?_ | refine grd_dec (fun _ => ?_) fun _ => ?_ | refine egrd_dec (fun _ => ?_) fun _ => ?_))
  refine (hx _ ((HExt.refl H).new _)).mono ?_
  rintro v K ⟨rfl, rfl⟩
  repeat' (first | (simp (disch := first | omega | (decide +kernel) | (repeat first | assumption | exact HExt.refl _ | refine HExt.set ?_ (by first | omega | (simp only [new_nx, set_nx]; omega)) _ | refine HExt.new ?_ _)) only [↓RD, RU, accW_t, accW_f, isW, ↓putF_get, ↓putF_none, ↓evF_t, ↓evF_c, ↓evF_f, new_nx, set_nx, new_get, set_get, getD_zero, getD_succ, u_not, pop, lop, aop, wop, resL, resV, tupleV, akV, isVal, isCell, Value.cells, ρ0, ρ1, ρ2, ρ3, ρ4, ↓reduceIte, Nat.reduceEqDiff, Nat.reduceAdd, Int.reduceOfNat, Int.reduceNegSucc, reduceCtorEq, ρ5, ρ6, ρ7, ρ8, srcR_c, src_n, src_v, src_s, bnd, lenV, capV, ρ9, ρ10, ρ11, ρ12, ρ13, ρ14, ρ15, ρ16, ρ17, ρ18, ρ19, ρ20, ρ21, ρ22, ρ23, ρ24, Kd.isRo, ρ25, ρ26, bldV, Nat.reduceLeDiff, Int.reduceMul, Int.reduceAdd, Int.reduceSub, Int.reduceToNat, maxLen_eq, zeros_one, appS_some, appV_n, appV_v, appH_t, appH_f, Kd.isEx, ρ27, partV, CH.set_set, lkV, lkR, isKey, mupV, nxtV, ρ28, ρ29]) | (with_reducible first | refine condK_dec (fun _ => ?_) fun _ => ?_ | refine grd_dec (fun _ => ?_) fun _ => ?_ | refine egrd_dec (fun _ => ?_) fun _ => ?_))
  refine (parse_wp (sl := ⟨some ⟨H.nx + 1, 0, none⟩, 7, 7⟩) (ts := ts) (by have := slat_row (K := (H.new (.cells [.int .i64 0, .int .i64 0, .string ⟨⟨[]⟩⟩, .int .i64 0, .slice none 0 0] 28 .ex)).new (.cells ((ts.map tokV).flatten) 25 .gr)) (b := H.nx + 1) (ts := ts) (Nat.lt_succ_self _) (new_get.trans (if_pos rfl)) (by rw [hlen, maxLen_eq]; omega); rw [hlen] at this; exact this) hlen.symm hl).mono ?_
  rintro v K ⟨vs, rfl, hE, os, rfl, hs⟩
  obtain ⟨k, l, x, o, wa, wn, wc, rfl⟩ := nd_cells hs
  have hnx := hE.nx
  have hr : K.ob H.nx = .cells [.int .i64 0, .int .i64 0, .string ⟨⟨[]⟩⟩, .int .i64 0, .slice none 0 0] 28 .ex := by
    rw [hE.ob H.nx (by simp only [new_nx]; omega), new_ne (by simp only [new_nx]; omega)]
    exact new_get.trans (if_pos rfl)
  repeat' (first | (simp (disch := first | omega | (decide +kernel) | (repeat first | assumption | exact HExt.refl _ | refine HExt.set ?_ (by first | omega | (simp only [new_nx, set_nx]; omega)) _ | refine HExt.new ?_ _)) only [↓RD, RU, accW_t, accW_f, isW, ↓putF_get, ↓putF_none, ↓evF_t, ↓evF_c, ↓evF_f, new_nx, set_nx, new_get, set_get, getD_zero, getD_succ, u_not, pop, lop, aop, wop, resL, resV, tupleV, akV, isVal, isCell, Value.cells, ρ0, ρ1, ρ2, ρ3, ρ4, ↓reduceIte, Nat.reduceEqDiff, Nat.reduceAdd, Int.reduceOfNat, Int.reduceNegSucc, reduceCtorEq, ρ5, ρ6, ρ7, ρ8, srcR_c, src_n, src_v, src_s, bnd, lenV, capV, ρ9, ρ10, ρ11, ρ12, ρ13, ρ14, ρ15, ρ16, ρ17, ρ18, ρ19, ρ20, ρ21, ρ22, ρ23, ρ24, Kd.isRo, ρ25, ρ26, bldV, Nat.reduceLeDiff, Int.reduceMul, Int.reduceAdd, Int.reduceSub, Int.reduceToNat, maxLen_eq, zeros_one, appS_some, appV_n, appV_v, appH_t, appH_f, Kd.isEx, ρ27, partV, CH.set_set, lkV, lkR, isKey, mupV, nxtV, ρ28, ρ29, hr]) | (with_reducible first | refine condK_dec (fun _ => ?_) fun _ => ?_ | refine grd_dec (fun _ => ?_) fun _ => ?_ | refine egrd_dec (fun _ => ?_) fun _ => ?_))
  have hK : HExt H K := ((HExt.refl H).new _).new _ |>.trans hE
  refine ⟨[_, _, _], rfl, hK.set (Nat.le_refl _) _, [_, _, _, _, _], rfl, hs.mv fun b hb => ?_⟩
  obtain ⟨h1, h2⟩ := hb
  have h1 : H.nx + 2 ≤ b := h1
  exact ⟨⟨by omega, h2⟩, set_ne (by omega)⟩
end Can
end Go.Proofs.Ytnkfdkfmdeibfaa
end
section
namespace Go.Proofs.Ytnkfdkfmdeibfaa
namespace Can
open Go Go.RowKit
set_option linter.unusedSimpArgs false
set_option linter.unusedVariables false
set_option maxRecDepth 4000
noncomputable def knP : RCode × RCode × RCode × RCode × RCode × RCode := match (rF Try.prog 7).body with
  | .seq a (.seq b (.seq c (.seq d (.seq e f)))) => (a, b, c, d, e, f)
  | _ => (.skip, .skip, .skip, .skip, .skip, .skip)
theorem kn_body : (rF Try.prog 7).body = .seq knP.1 (.seq knP.2.1 (.seq knP.2.2.1 (.seq knP.2.2.2.1 (.seq knP.2.2.2.2.1 knP.2.2.2.2.2)))) := by kernel_rfl
theorem row_inv {K : CH} {A : Nat → Prop} {n : Nd} {ks : List Nd} {w : Value} (h : SVR K A (.row 5 (ndsS (n :: ks))) w) : ∃ b os e kd, w = .slice (some ⟨b, 0, none⟩) (ks.length + 1) (ks.length + 1) ∧ A b ∧ K.ob b = .cells os e kd ∧ kd.isRo = false ∧ SVRs K A (ndsS (n :: ks)).flatten os := by
  have hl : (ndsS (n :: ks)).length = ks.length + 1 := ndsS_len
  generalize hg : ndsS (n :: ks) = gs at h hl
  cases h with
  | row0 => simp at hl
  | row hne hb ho hk hg hs => rw [hl]; exact ⟨_, _, _, _, rfl, hb, ho, hk, hs⟩
theorem nd_inv {K : CH} {A : Nat → Prop} {k : Nat} {l : Int} {x : List UInt8} {o : Nat} {ks : List Nd} {rest : List SV} {os : List Value} (h : SVRs K A (ndS (.mk k l x o ks) ++ rest) os) : ∃ w os', os = .int .i64 (k : Nat) :: .int .i64 l :: .string ⟨⟨x⟩⟩ :: .int .i64 (o : Nat) :: w :: os' ∧ SVR K A (.row 5 (ndsS ks)) w ∧ SVRs K A rest os' := by
  cases h with | cons a1 h =>
  cases h with | cons a2 h =>
  cases h with | cons a3 h =>
  cases h with | cons a4 h =>
  cases h with | cons a5 h =>
  cases a1
  cases a2
  cases a3
  cases a4
  exact ⟨_, _, rfl, a5, h⟩
theorem known_wp {H : CH} : WpF TL 7 [] H fun v K => HExt H K ∧ v = .bool true := by
  refine wpF_rS (by rfl) (by kernel_rfl) ?_
  rw [kn_body]
  conv in (rF _ _).res => reduce
  have e : knP.1 = _ := rfl
  conv at e => rhs; reduce
  rw [e]
  clear e
  have e : knP.2.1 = _ := rfl
  conv at e => rhs; reduce
  rw [e]
  clear e
  repeat' (first | (simp (maxSteps := 2000000) (disch := first | omega | (decide +kernel) | (repeat first | assumption | exact HExt.refl _ | refine HExt.set ?_ (by first | omega | (simp only [new_nx, set_nx]; omega)) _ | refine HExt.new ?_ _)) only [↓RD, RU, accW_t, accW_f, isW, ↓putF_get, ↓putF_none, ↓evF_t, ↓evF_c, ↓evF_f, new_nx, set_nx, new_get, set_get, getD_zero, getD_succ, u_not, pop, lop, aop, wop, resL, resV, tupleV, akV, isVal, isCell, Value.cells, ρ0, ρ1, ρ2, ρ3, ρ4, ↓reduceIte, Nat.reduceEqDiff, Nat.reduceAdd, Int.reduceOfNat, Int.reduceNegSucc, reduceCtorEq, ρ5, ρ6, ρ7, ρ8, srcR_c, src_n, src_v, src_s, bnd, lenV, capV, ρ9, ρ10, ρ11, ρ12, ρ13, ρ14, ρ15, ρ16, ρ17, ρ18, ρ19, ρ20, ρ21, ρ22, ρ23, ρ24, Kd.isRo, ρ25, ρ26, bldV, Nat.reduceLeDiff, Int.reduceMul, Int.reduceAdd, Int.reduceSub, Int.reduceToNat, maxLen_eq, zeros_one, appS_some, appV_n, appV_v, appH_t, appH_f, Kd.isEx, ρ27, partV, CH.set_set, lkV, lkR, isKey, mupV, nxtV, ρ28, ρ29, frzV]) | (with_reducible first | refine condK_dec (fun _ => ?_) fun _ => ?_ | refine grd_dec (fun _ => ?_) fun _ => ?_ | refine egrd_dec (fun _ => ?_) fun _ => ?_))
  refine (source_wp (ts := toks1) (by decide) rfl (fun K hK => lex1_wp (p := H.nx) (by rw [hK.ob _ (Nat.lt_succ_self _)]; exact (new_get.trans (if_pos rfl)).trans rfl))).mono ?_
  rintro v K ⟨vs, rfl, hE, os, rfl, hs⟩
  rw [parse1] at hs ⊢
  have hK : HExt H K := ((HExt.refl H).new _).trans hE
  clear hE
  obtain ⟨w, os', rfl, hw, hn⟩ := nd_inv (rest := []) (k := 1) (l := 1) (x := []) (o := 0) (ks := [nd 3 1 [.mk 36 1 [97] 0 [], nd 52 1 [.mk 36 1 [98] 0 [], .mk 30 1 [49] 0 []]]]) hs
  cases hn
  obtain ⟨b1, os1, e1, kd1, rfl, hb1, ob1, kk1, hs1⟩ := row_inv hw
  obtain ⟨w1, os', rfl, hw1, hn⟩ := nd_inv (rest := []) (k := 3) (l := 1) (x := []) (o := 0) (ks := [.mk 36 1 [97] 0 [], nd 52 1 [.mk 36 1 [98] 0 [], .mk 30 1 [49] 0 []]]) hs1
  cases hn
  obtain ⟨b2, os2, e2, kd2, rfl, hb2, ob2, kk2, hs2⟩ := row_inv hw1
  obtain ⟨w2, os', rfl, hw2, hn⟩ := nd_inv (rest := ndS (nd 52 1 [.mk 36 1 [98] 0 [], .mk 30 1 [49] 0 []]) ++ []) (k := 36) (l := 1) (x := [97]) (o := 0) (ks := []) hs2
  obtain ⟨w3, os', rfl, hw3, hn⟩ := nd_inv (rest := []) (k := 52) (l := 1) (x := []) (o := 0) (ks := [.mk 36 1 [98] 0 [], .mk 30 1 [49] 0 []]) hn
  cases hn
  obtain ⟨b3, os3, e3, kd3, rfl, hb3, ob3, kk3, hs3⟩ := row_inv hw3
  obtain ⟨w4, os', rfl, hw4, hn⟩ := nd_inv (rest := ndS (.mk 30 1 [49] 0 []) ++ []) (k := 36) (l := 1) (x := [98]) (o := 0) (ks := []) hs3
  obtain ⟨w5, os', rfl, hw5, hn⟩ := nd_inv (rest := []) (k := 30) (l := 1) (x := [49]) (o := 0) (ks := []) hn
  cases hn
  obtain ⟨_, _, _, rfl⟩ := row_slc hw2
  have l1 : b1 < K.nx := hb1.2
  have l2 : b2 < K.nx := hb2.2
  have l3 : b3 < K.nx := hb3.2
  have n1 : b1 ≠ K.nx := Nat.ne_of_lt l1
  have n2 : b2 ≠ K.nx := Nat.ne_of_lt l2
  have n3 : b3 ≠ K.nx := Nat.ne_of_lt l3
  have n1' : b1 ≠ K.nx + 1 := by omega
  have n2' : b2 ≠ K.nx + 1 := by omega
  have n3' : b3 ≠ K.nx + 1 := by omega
  repeat' (first | (simp (maxSteps := 2000000) (disch := first | omega | (decide +kernel) | (repeat first | assumption | exact HExt.refl _ | refine HExt.set ?_ (by first | omega | (simp only [new_nx, set_nx]; omega)) _ | refine HExt.new ?_ _)) only [↓RD, RU, accW_t, accW_f, isW, ↓putF_get, ↓putF_none, ↓evF_t, ↓evF_c, ↓evF_f, new_nx, set_nx, new_get, set_get, getD_zero, getD_succ, u_not, pop, lop, aop, wop, resL, resV, tupleV, akV, isVal, isCell, Value.cells, ρ0, ρ1, ρ2, ρ3, ρ4, ↓reduceIte, Nat.reduceEqDiff, Nat.reduceAdd, Int.reduceOfNat, Int.reduceNegSucc, reduceCtorEq, ρ5, ρ6, ρ7, ρ8, srcR_c, src_n, src_v, src_s, bnd, lenV, capV, ρ9, ρ10, ρ11, ρ12, ρ13, ρ14, ρ15, ρ16, ρ17, ρ18, ρ19, ρ20, ρ21, ρ22, ρ23, ρ24, Kd.isRo, ρ25, ρ26, bldV, Nat.reduceLeDiff, Int.reduceMul, Int.reduceAdd, Int.reduceSub, Int.reduceToNat, maxLen_eq, zeros_one, appS_some, appV_n, appV_v, appH_t, appH_f, Kd.isEx, ρ27, partV, CH.set_set, lkV, lkR, isKey, mupV, nxtV, ρ28, ρ29, Nat.zero_mul, Nat.one_mul, Nat.reduceMul, ob1, ob2, ob3, n1, n2, n3, n1', n2', n3']) | (with_reducible first | refine condK_dec (fun _ => ?_) fun _ => ?_ | refine grd_dec (fun _ => ?_) fun _ => ?_ | refine egrd_dec (fun _ => ?_) fun _ => ?_))
  have e : knP.2.2.1 = _ := rfl
  conv at e => rhs; reduce
  rw [e]
  clear e
  repeat' (first | (simp (maxSteps := 2000000) (disch := first | omega | (decide +kernel) | (repeat first | assumption | exact HExt.refl _ | refine HExt.set ?_ (by first | omega | (simp only [new_nx, set_nx]; omega)) _ | refine HExt.new ?_ _)) only [↓RD, RU, accW_t, accW_f, isW, ↓putF_get, ↓putF_none, ↓evF_t, ↓evF_c, ↓evF_f, new_nx, set_nx, new_get, set_get, getD_zero, getD_succ, u_not, pop, lop, aop, wop, resL, resV, tupleV, akV, isVal, isCell, Value.cells, ρ0, ρ1, ρ2, ρ3, ρ4, ↓reduceIte, Nat.reduceEqDiff, Nat.reduceAdd, Int.reduceOfNat, Int.reduceNegSucc, reduceCtorEq, ρ5, ρ6, ρ7, ρ8, srcR_c, src_n, src_v, src_s, bnd, lenV, capV, ρ9, ρ10, ρ11, ρ12, ρ13, ρ14, ρ15, ρ16, ρ17, ρ18, ρ19, ρ20, ρ21, ρ22, ρ23, ρ24, Kd.isRo, ρ25, ρ26, bldV, Nat.reduceLeDiff, Int.reduceMul, Int.reduceAdd, Int.reduceSub, Int.reduceToNat, maxLen_eq, zeros_one, appS_some, appV_n, appV_v, appH_t, appH_f, Kd.isEx, ρ27, partV, CH.set_set, lkV, lkR, isKey, mupV, nxtV, ρ28, ρ29, Nat.zero_mul, Nat.one_mul, Nat.reduceMul, ob1, ob2, ob3, n1, n2, n3, n1', n2', n3']) | (with_reducible first | refine condK_dec (fun _ => ?_) fun _ => ?_ | refine grd_dec (fun _ => ?_) fun _ => ?_ | refine egrd_dec (fun _ => ?_) fun _ => ?_))
  have e : knP.2.2.2.1 = _ := rfl
  conv at e => rhs; reduce
  rw [e]
  clear e
  repeat' (first | (simp (maxSteps := 2000000) (disch := first | omega | (decide +kernel) | (repeat first | assumption | exact HExt.refl _ | refine HExt.set ?_ (by first | omega | (simp only [new_nx, set_nx]; omega)) _ | refine HExt.new ?_ _)) only [↓RD, RU, accW_t, accW_f, isW, ↓putF_get, ↓putF_none, ↓evF_t, ↓evF_c, ↓evF_f, new_nx, set_nx, new_get, set_get, getD_zero, getD_succ, u_not, pop, lop, aop, wop, resL, resV, tupleV, akV, isVal, isCell, Value.cells, ρ0, ρ1, ρ2, ρ3, ρ4, ↓reduceIte, Nat.reduceEqDiff, Nat.reduceAdd, Int.reduceOfNat, Int.reduceNegSucc, reduceCtorEq, ρ5, ρ6, ρ7, ρ8, srcR_c, src_n, src_v, src_s, bnd, lenV, capV, ρ9, ρ10, ρ11, ρ12, ρ13, ρ14, ρ15, ρ16, ρ17, ρ18, ρ19, ρ20, ρ21, ρ22, ρ23, ρ24, Kd.isRo, ρ25, ρ26, bldV, Nat.reduceLeDiff, Int.reduceMul, Int.reduceAdd, Int.reduceSub, Int.reduceToNat, maxLen_eq, zeros_one, appS_some, appV_n, appV_v, appH_t, appH_f, Kd.isEx, ρ27, partV, CH.set_set, lkV, lkR, isKey, mupV, nxtV, ρ28, ρ29, Nat.zero_mul, Nat.one_mul, Nat.reduceMul, ob1, ob2, ob3, n1, n2, n3, n1', n2', n3']) | (with_reducible first | refine condK_dec (fun _ => ?_) fun _ => ?_ | refine grd_dec (fun _ => ?_) fun _ => ?_ | refine egrd_dec (fun _ => ?_) fun _ => ?_))
  have e : knP.2.2.2.2.1 = _ := rfl
  conv at e => rhs; reduce
  rw [e]
  clear e
  repeat' (first | (simp (maxSteps := 2000000) (disch := first | omega | (decide +kernel) | (repeat first | assumption | exact HExt.refl _ | refine HExt.set ?_ (by first | omega | (simp only [new_nx, set_nx]; omega)) _ | refine HExt.new ?_ _)) only [↓RD, RU, accW_t, accW_f, isW, ↓putF_get, ↓putF_none, ↓evF_t, ↓evF_c, ↓evF_f, new_nx, set_nx, new_get, set_get, getD_zero, getD_succ, u_not, pop, lop, aop, wop, resL, resV, tupleV, akV, isVal, isCell, Value.cells, ρ0, ρ1, ρ2, ρ3, ρ4, ↓reduceIte, Nat.reduceEqDiff, Nat.reduceAdd, Int.reduceOfNat, Int.reduceNegSucc, reduceCtorEq, ρ5, ρ6, ρ7, ρ8, srcR_c, src_n, src_v, src_s, bnd, lenV, capV, ρ9, ρ10, ρ11, ρ12, ρ13, ρ14, ρ15, ρ16, ρ17, ρ18, ρ19, ρ20, ρ21, ρ22, ρ23, ρ24, Kd.isRo, ρ25, ρ26, bldV, Nat.reduceLeDiff, Int.reduceMul, Int.reduceAdd, Int.reduceSub, Int.reduceToNat, maxLen_eq, zeros_one, appS_some, appV_n, appV_v, appH_t, appH_f, Kd.isEx, ρ27, partV, CH.set_set, lkV, lkR, isKey, mupV, nxtV, ρ28, ρ29, frzV]) | (with_reducible first | refine condK_dec (fun _ => ?_) fun _ => ?_ | refine grd_dec (fun _ => ?_) fun _ => ?_ | refine egrd_dec (fun _ => ?_) fun _ => ?_))
  refine (source_wp (ts := toks2) (by decide) rfl (fun K3 hK3 => lex2_wp (p := K.nx + 1 + 1) ((hK3.ob (K.nx + 1 + 1) (Nat.lt_succ_self _)).trans ((new_get.trans (if_pos rfl)).trans rfl)))).mono ?_
  rintro v K2 ⟨vs, rfl, hE2, os, rfl, hsz⟩
  rw [parse2] at hsz ⊢
  have hx2 := hE2.ob
  have m4 := hx2 (K.nx + 1) (by show K.nx + 1 < K.nx + 1 + 1 + 1; omega)
  have m3 := hx2 b3 (by show b3 < K.nx + 1 + 1 + 1; omega)
  simp only [new_get, set_get, new_nx, set_nx, n3, n3', show ¬ (b3 = K.nx + 1 + 1) by omega, show ¬ (K.nx + 1 = K.nx + 1 + 1) by omega, if_false, if_true, ↓reduceIte, ob3] at m4 m3
  have e : knP.2.2.2.2.2 = _ := rfl
  conv at e => rhs; reduce
  rw [e]
  clear e
  repeat' (first | (simp (maxSteps := 2000000) (disch := first | omega | (decide +kernel) | (repeat first | assumption | exact HExt.refl _ | refine HExt.set ?_ (by first | omega | (simp only [new_nx, set_nx]; omega)) _ | refine HExt.new ?_ _)) only [↓RD, RU, accW_t, accW_f, isW, ↓putF_get, ↓putF_none, ↓evF_t, ↓evF_c, ↓evF_f, new_nx, set_nx, new_get, set_get, getD_zero, getD_succ, u_not, pop, lop, aop, wop, resL, resV, tupleV, akV, isVal, isCell, Value.cells, ρ0, ρ1, ρ2, ρ3, ρ4, ↓reduceIte, Nat.reduceEqDiff, Nat.reduceAdd, Int.reduceOfNat, Int.reduceNegSucc, reduceCtorEq, ρ5, ρ6, ρ7, ρ8, srcR_c, src_n, src_v, src_s, bnd, lenV, capV, ρ9, ρ10, ρ11, ρ12, ρ13, ρ14, ρ15, ρ16, ρ17, ρ18, ρ19, ρ20, ρ21, ρ22, ρ23, ρ24, Kd.isRo, ρ25, ρ26, bldV, Nat.reduceLeDiff, Int.reduceMul, Int.reduceAdd, Int.reduceSub, Int.reduceToNat, maxLen_eq, zeros_one, appS_some, appV_n, appV_v, appH_t, appH_f, Kd.isEx, ρ27, partV, CH.set_set, lkV, lkR, isKey, mupV, nxtV, ρ28, ρ29, Nat.zero_mul, Nat.one_mul, Nat.reduceMul, m3, m4]) | (with_reducible first | refine condK_dec (fun _ => ?_) fun _ => ?_ | refine grd_dec (fun _ => ?_) fun _ => ?_ | refine egrd_dec (fun _ => ?_) fun _ => ?_))
  rw [pstr_eq, decide_eq_true (by rfl)]
  repeat' (first | (simp (maxSteps := 2000000) (disch := first | omega | (decide +kernel) | (repeat first | assumption | exact HExt.refl _ | refine HExt.set ?_ (by first | omega | (simp only [new_nx, set_nx]; omega)) _ | refine HExt.new ?_ _)) only [↓RD, RU, accW_t, accW_f, isW, ↓putF_get, ↓putF_none, ↓evF_t, ↓evF_c, ↓evF_f, new_nx, set_nx, new_get, set_get, getD_zero, getD_succ, u_not, pop, lop, aop, wop, resL, resV, tupleV, akV, isVal, isCell, Value.cells, ρ0, ρ1, ρ2, ρ3, ρ4, ↓reduceIte, Nat.reduceEqDiff, Nat.reduceAdd, Int.reduceOfNat, Int.reduceNegSucc, reduceCtorEq, ρ5, ρ6, ρ7, ρ8, srcR_c, src_n, src_v, src_s, bnd, lenV, capV, ρ9, ρ10, ρ11, ρ12, ρ13, ρ14, ρ15, ρ16, ρ17, ρ18, ρ19, ρ20, ρ21, ρ22, ρ23, ρ24, Kd.isRo, ρ25, ρ26, bldV, Nat.reduceLeDiff, Int.reduceMul, Int.reduceAdd, Int.reduceSub, Int.reduceToNat, maxLen_eq, zeros_one, appS_some, appV_n, appV_v, appH_t, appH_f, Kd.isEx, ρ27, partV, CH.set_set, lkV, lkR, isKey, mupV, nxtV, ρ28, ρ29]) | (with_reducible first | refine condK_dec (fun _ => ?_) fun _ => ?_ | refine grd_dec (fun _ => ?_) fun _ => ?_ | refine egrd_dec (fun _ => ?_) fun _ => ?_))
  exact (((((hK.new _).set (by have := hK.nx; omega) _).new _).set (by have := hK.nx; omega) _).new _).trans hE2
end Can
end Go.Proofs.Ytnkfdkfmdeibfaa
end
section
namespace Go.Proofs.Ytnkfdkfmdeibfaa
namespace Can
open Go Go.RowKit
set_option linter.unusedSimpArgs false
set_option linter.unusedVariables false
set_option maxRecDepth 4000
theorem top_rel {ln : Bool} {ts us : List PT} {N d : Nat} (C : TA ts us N N d ln) : ∀ f acc acc' i i', i' = i + d → (i < N → NRs ln acc acc') → RR N d ln N i i (gr ts f (.top acc) i) (gr us f (.top acc') i') := by
  intro f
  induction f with
  | zero => intros; exact trivial
  | succ f ih =>
    intro acc acc' i i' e h
    simp only [gr]
    refine rr_kd C 0 e (Nat.le_refl _) (Nat.le_refl _) (Nat.le_refl _) (rr_ok (Nat.le_refl _) e h) ?_
    have hs := gr_rel C f .stmt .stmt i i' e (.z rfl)
    simp only [NT.stat, NT.adv, if_true] at hs
    refine rr_pb1 N 0 hs (Nat.le_refl _) (Nat.le_succ _) (by omega) (by omega) fun n n' j j' e' hj hn => ih _ _ j j' e' fun hj' => (h (by omega)).app (.one hn)
def lnT : Int → List PT → List PT
  | _, [] => []
  | k, t :: ts => ⟨t.kind, k, t.text⟩ :: lnT (k + 1) ts
theorem lnT_len : ∀ (k : Int) (ts : List PT), (lnT k ts).length = ts.length
  | _, [] => rfl
  | k, t :: ts => by simp [lnT, lnT_len]
theorem lnT_get : ∀ (k : Int) (ts : List PT) (i : Nat), (lnT k ts)[i]? = ts[i]?.map fun t => ⟨t.kind, k + i, t.text⟩
  | _, [], _ => rfl
  | k, t :: ts, 0 => by simp [lnT]
  | k, t :: ts, i + 1 => by
    have := lnT_get (k + 1) ts i
    simp only [lnT, List.getElem?_cons_succ, this]
    have e : k + 1 + (i : Int) = k + ((i + 1 : Nat) : Int) := by omega
    rw [e]
theorem lnT_app : ∀ (k : Int) (a : List PT) (t : PT), lnT k (a ++ [t]) = lnT k a ++ [⟨t.kind, k + a.length, t.text⟩]
  | k, [], t => by simp [lnT]
  | k, x :: a, t => by
    simp only [List.cons_append, lnT, lnT_app (k + 1) a t, List.length_cons]
    have e : k + 1 + (a.length : Int) = k + ((a.length + 1 : Nat) : Int) := by omega
    rw [e]
theorem nowT_some {ts : List PT} {i : Nat} {t : PT} (h : ts[i]? = some t) : nowT ts i = t := by
  unfold nowT
  rw [h]
theorem nowT_end {ts : List PT} {i : Nat} (h : ts.length ≤ i) : (nowT ts i).kind = 0 ∧ (nowT ts i).text = [] ∧ (∀ t, ts.getLast? = some t → (nowT ts i).line = t.line) := by
  unfold nowT
  rw [List.getElem?_eq_none h]
  cases ts.getLast? with
  | none => exact ⟨rfl, rfl, fun _ h => by cases h⟩
  | some t => exact ⟨rfl, rfl, fun _ h => by cases h; rfl⟩
theorem gr_top (ts : List PT) : ∃ r, gr ts (ts.length * 64 + 100) (.top []) 0 = some r := by
  have := top_gd (ts := ts)
  match h : gr ts (ts.length * 64 + 100) (.top []) 0, this with
  | some r, _ => exact ⟨r, rfl⟩
end Can
end Go.Proofs.Ytnkfdkfmdeibfaa
end
section
namespace Go.Proofs.Ytnkfdkfmdeibfaa
namespace Can
open Go Go.RowKit
set_option linter.unusedSimpArgs false
set_option linter.unusedVariables false
set_option maxRecDepth 4000
theorem gr_of {ts : List PT} {f : Nat} {r : Except Nat (List Nd × Nat)} (h : gr ts f (.top []) 0 = some r) : gr ts (ts.length * 64 + 100) (.top []) 0 = some r := by
  obtain ⟨r', hr⟩ := gr_top ts
  rw [hr]
  have h1 := gr_mono (Nat.le_max_left f (ts.length * 64 + 100)) h
  have h2 := gr_mono (Nat.le_max_right f (ts.length * 64 + 100)) hr
  rw [h1] at h2
  exact h2.symm
theorem parseT_err {ts : List PT} {f e : Nat} (h : gr ts f (.top []) 0 = some (.error e)) : parseT ts = (zNd, (nowT ts e).line, 22) := by
  unfold parseT
  rw [gr_of h]
theorem parseT_ok {ts : List PT} {f j : Nat} {l : List Nd} (h : gr ts f (.top []) 0 = some (.ok (l, j))) : ∃ a er, parseT ts = (a, 0, er) ∧ (er = 0 ∨ er = 11) := by
  unfold parseT
  rw [gr_of h]
  show ∃ a er, (if 60 < htL l + 1 then (zNd, 0, 11) else (nd 1 (hdLine (nowT ts 0).line l) l, 0, 0)) = (a, 0, er) ∧ _
  by_cases h60 : 60 < htL l + 1
  · rw [if_pos h60]; exact ⟨_, _, rfl, .inr rfl⟩
  · rw [if_neg h60]; exact ⟨_, _, rfl, .inl rfl⟩
theorem top_err {ts us : List PT} {N : Nat} {ln : Bool} (C : TA ts us N N 0 ln) {f e : Nat} (h : gr ts f (.top []) 0 = some (.error e)) (he : e < N) : gr us f (.top []) 0 = some (.error e) := by
  have h1 := top_rel C f [] [] 0 0 rfl fun _ => .nil
  rw [h] at h1
  exact h1.2 he
theorem top_le {ts : List PT} {e : Nat} (h : gr ts (ts.length * 64 + 100) (.top []) 0 = some (.error e)) : e ≤ ts.length := by
  have h1 := gr_gd (ts := ts) (ts.length * 64 + 100) (.top []) 0 trivial (Nat.zero_le _) (by simp only [NT.rank]; omega)
  rw [h] at h1
  exact h1.2
def fsT (ts : List PT) : List PT := lnT 1 ts ++ [⟨0, (ts.length + 1 : Nat), []⟩]
theorem fsT_len {ts : List PT} : (fsT ts).length = ts.length + 1 := by simp [fsT, lnT_len]
theorem fsT_now {ts : List PT} {i : Nat} (h : i ≤ ts.length) : (nowT (fsT ts) i).line = (i : Int) + 1 := by
  unfold fsT
  rcases Nat.lt_or_ge i ts.length with g | g
  · have e : (lnT 1 ts ++ [⟨0, ((ts.length + 1 : Nat) : Int), []⟩])[i]? = (lnT 1 ts)[i]? := List.getElem?_append_left (by rw [lnT_len]; exact g)
    have e2 := lnT_get 1 ts i
    rw [List.getElem?_eq_getElem g] at e2
    rw [nowT_some (e.trans e2)]
    show (1 : Int) + i = _
    omega
  · have : i = ts.length := by omega
    subst this
    have e : (lnT 1 ts ++ [⟨0, ((ts.length + 1 : Nat) : Int), []⟩])[ts.length]? = some ⟨0, ((ts.length + 1 : Nat) : Int), []⟩ := by
      rw [List.getElem?_append_right (by rw [lnT_len]; omega), lnT_len, Nat.sub_self]; rfl
    rw [nowT_some e]
    show ((ts.length + 1 : Nat) : Int) = _
    omega
theorem fsT_ta {ts : List PT} {N : Nat} : TA ts (fsT ts) N N 0 false where
  tok p _ := by
    refine ⟨?_, ?_, fun h => by cases h⟩
    all_goals
      rw [Nat.add_zero]
      rcases Nat.lt_or_ge p ts.length with g | g
      · have e : (fsT ts)[p]? = (lnT 1 ts)[p]? := List.getElem?_append_left (by rw [lnT_len]; exact g)
        have e2 := lnT_get 1 ts p
        rw [List.getElem?_eq_getElem g] at e2
        rw [nowT_some (e.trans e2), nowT_some (List.getElem?_eq_getElem g)]
      · obtain ⟨a1, a2, _⟩ := nowT_end g
        rcases Nat.lt_or_ge ts.length p with g2 | g2
        · obtain ⟨b1, b2, _⟩ := nowT_end (ts := fsT ts) (i := p) (by rw [fsT_len]; omega)
          first | exact b1.trans a1.symm | exact b2.trans a2.symm
        · have : p = ts.length := by omega
          subst this
          have e : (fsT ts)[ts.length]? = some ⟨0, ((ts.length + 1 : Nat) : Int), []⟩ := by
            unfold fsT
            rw [List.getElem?_append_right (by rw [lnT_len]; omega), lnT_len, Nat.sub_self]; rfl
          rw [nowT_some e]
          first | exact a1.symm | exact a2.symm
  nb := .inl rfl
theorem now_take {us oth : List PT} {m p : Nat} (hp : p < m) (hm : m ≤ us.length) : nowT (us.take m ++ oth) p = nowT us p := by
  have e : (us.take m ++ oth)[p]? = us[p]? := by
    rw [List.getElem?_append_left (by rw [List.length_take]; omega), List.getElem?_take_of_lt hp]
  have e2 : us[p]? = some us[p] := List.getElem?_eq_getElem (by omega)
  rw [nowT_some (e.trans e2), nowT_some e2]
theorem take_ta {us oth : List PT} {m : Nat} (hm : m ≤ us.length) : TA us (us.take m ++ oth) m m 0 true where
  tok p hp := by rw [Nat.add_zero, now_take hp hm]; exact ⟨rfl, rfl, fun _ => rfl⟩
  nb := .inl rfl
theorem take_ta' {us oth : List PT} {m : Nat} (hm : m ≤ us.length) : TA (us.take m ++ oth) us m m 0 true where
  tok p hp := by rw [Nat.add_zero, now_take hp hm]; exact ⟨rfl, rfl, fun _ => rfl⟩
  nb := .inl rfl
theorem parse_first (ts : List PT) : (∃ a er, parseT (fsT ts) = (a, 0, er) ∧ (er = 0 ∨ er = 11)) ∨
    ∃ e, e ≤ ts.length ∧ parseT (fsT ts) = (zNd, ((e + 1 : Nat) : Int), 22) ∧ (∀ oth, parseT ((fsT ts).take (e + 1) ++ oth) = (zNd, ((e + 1 : Nat) : Int), 22)) ∧
      ∃ a l er, parseT ((fsT ts).take e ++ [⟨0, 7000000, []⟩]) = (a, l, er) ∧ (er = 0 ∨ er = 11 ∨ (er = 22 ∧ l = 7000000)) := by
  obtain ⟨r, hr⟩ := gr_top ts
  match r, hr with
  | .ok (l, j), hr =>
    have h := top_rel (fsT_ta (ts := ts) (N := j + 1)) (ts.length * 64 + 100) [] [] 0 0 rfl fun _ => .nil
    rw [hr] at h
    obtain ⟨l', e, _⟩ := h.2 (Nat.lt_succ_self _)
    exact .inl (parseT_ok e)
  | .error e, hr =>
    have hle := top_le hr
    have hu : gr (fsT ts) (ts.length * 64 + 100) (.top []) 0 = some (.error e) := top_err (fsT_ta (N := e + 1)) hr (Nat.lt_succ_self _)
    have hln : (nowT (fsT ts) e).line = ((e + 1 : Nat) : Int) := by rw [fsT_now hle]; omega
    refine .inr ⟨e, hle, by rw [parseT_err hu, hln], fun oth => ?_, ?_⟩
    · have h1 := top_err (take_ta (oth := oth) (m := e + 1) (by rw [fsT_len]; omega)) hu (Nat.lt_succ_self _)
      rw [parseT_err h1, now_take (Nat.lt_succ_self _) (by rw [fsT_len]; omega), hln]
    · obtain ⟨r, hr2⟩ := gr_top ((fsT ts).take e ++ [⟨0, 7000000, []⟩])
      match r, hr2 with
      | .ok (l, j), hr2 =>
        obtain ⟨a, er, h1, h2⟩ := parseT_ok hr2
        exact ⟨a, 0, er, h1, h2.imp_right .inl⟩
      | .error e2, hr2 =>
        rcases Nat.lt_or_ge e2 e with g | g
        · have h1 := gr_of (top_err (take_ta' (m := e) (by rw [fsT_len]; omega)) hr2 g)
          rw [gr_of hu] at h1
          cases h1
          exact absurd g (Nat.lt_irrefl _)
        · refine ⟨_, _, _, parseT_err hr2, .inr (.inr ⟨rfl, ?_⟩)⟩
          have hl : ((fsT ts).take e).length = e := by rw [List.length_take, fsT_len]; omega
          rcases Nat.lt_or_ge e e2 with g2 | g2
          · obtain ⟨_, _, h3⟩ := nowT_end (ts := (fsT ts).take e ++ [⟨0, 7000000, []⟩]) (i := e2) (by simp only [List.length_append, hl, List.length_cons, List.length_nil]; omega)
            exact h3 ⟨0, 7000000, []⟩ (by simp)
          · have : e2 = e := by omega
            subst this
            rw [nowT_some (t := ⟨0, 7000000, []⟩) (by rw [List.getElem?_append_right (by omega), hl, Nat.sub_self]; rfl)]
end Can
end Go.Proofs.Ytnkfdkfmdeibfaa
end
section
namespace Go.Proofs.Ytnkfdkfmdeibfaa
namespace Can
open Go Go.RowKit
set_option linter.unusedSimpArgs false
set_option linter.unusedVariables false
set_option maxRecDepth 4000
theorem slat_ext {K K' : CH} {q : Option Addr} {c : Nat} {ts : List PT} (h : SlAt 3 CTk K q c ts) (hx : HExt K K') : SlAt 3 CTk K' q c ts := by
  rcases h with h | ⟨l, o, os, e, k, h0, h1, h2, h3, h4, h5, h6⟩
  · exact .inl h
  · exact .inr ⟨l, o, os, e, k, h0, Nat.lt_of_lt_of_le h1 hx.nx, h2, h3, (hx.ob l h1).trans h4, h5, h6⟩
theorem tok_ok : ∀ t : PT, (tokV t).length = 3 ∧ (tokV t).all isCell = true := fun t => ⟨rfl, rfl⟩
theorem grw_tk {A K : CH} {v : Value} {ts : List PT} (h : Grw A 25 3 tokV K v ts) (hm : ts.length ≤ 9223372036854775807) : ∃ q c, v = .slice q ts.length c ∧ SlAt 3 CTk K q c ts := by
  rcases h with ⟨rfl, rfl⟩ | ⟨b, kd, rfl, h1, h2, h3, h4⟩
  · exact ⟨none, 0, rfl, .inl ⟨rfl, rfl, .inl rfl⟩⟩
  · refine ⟨_, _, rfl, ?_⟩
    have e : ts.flatMap tokV = (ts.map tokV).flatten := by rw [List.flatMap_def]
    rw [e] at h3
    exact slat_row h2 h3 (by rw [maxLen_eq]; exact hm)
def LnJ (A : CH) (k add : Int) (ts : List PT) (n : Nat) (v5 v6 : Value) (K : CH) : Prop := ∃ i : Nat, n = ts.length - i ∧ i ≤ ts.length ∧ v6 = .int .i64 (i : Nat) ∧ Grw A 25 3 tokV K v5 (lnT (k + add) (ts.take i)) ∧ HExt A K
end Can
end Go.Proofs.Ytnkfdkfmdeibfaa
end
