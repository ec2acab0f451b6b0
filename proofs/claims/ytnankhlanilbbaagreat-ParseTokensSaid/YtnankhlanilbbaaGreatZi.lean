/- Parse, the program: all its rules, along the grammar. (Printed by tools/genpw3.py.). Parse, the program: parse.Parse, ahead of its deferred call. Parse, the program: parse.Parse answers parseT. Parse, its laws: the sources of the example, lexed by evaluation. Parse, the document: the reader in memory; its looks at a token. (Printed by tools/gendoc.py.). Parse, the document: the reader as the one object of runs over trees; nodes of any content. Parse, the document: its small steps, as runs over trees. -/
import Derived.Test.YtnankhlanilbbaaGreatZh
import Derived.Test.YtnankhlanilbbaaGreatZg
import Derived.Test.YtnankhlanilbbaaGreatZd
section
namespace Go.Proofs.YtnankhlanilbbaaGreat
namespace Can
open Go Go.RowKit
set_option linter.unusedSimpArgs false
set_option linter.unusedVariables false
set_option maxRecDepth 4000
attribute [local irreducible] TC isT nowT begT placeN
section
variable {Z : TP} {X : Pan} {W : Int → Value} {ts : List PT} {sl : Sl} {f : Nat}
theorem pall0 : PAll Z X W ts sl 0 := by
  constructor
  all_goals (intros; intro i Q R E P hi hG hE hQ; exact hG.elim)
theorem palls (C : PCtx Z X W ts sl) (ih : ∀ g, g ≤ f → PAll Z X W ts sl g) : PAll Z X W ts sl (f + 1) := ⟨pw_expr C ih, pw_or C ih, pw_and C ih, pw_not C ih, pw_compare C ih, pw_arith C ih, pw_term C ih, pw_factor C ih, pw_primary C ih, pw_atom C ih, pw_exprs C ih, pw_one C ih, pw_places C ih, pw_simple C ih, pw_plain C ih, pw_value C ih, pw_block C ih, pw_stmt C ih, pw_params C ih, pw_row C ih, pw_index C ih, pw_clauses C ih, pw_list C ih, pw_braces C ih, pw_names C ih, pw_maybe C ih, pw_ifs C ih, pw_tries C ih⟩
theorem pall (C : PCtx Z X W ts sl) : ∀ f, PAll Z X W ts sl f := by
  intro f
  induction f using Nat.strongRecOn with
  | _ f ih =>
    cases f with
    | zero => exact pall0
    | succ f => exact palls C fun g hg => ih g (by omega)
end
end Can
end Go.Proofs.YtnankhlanilbbaaGreat
end
section
namespace Go.Proofs.YtnankhlanilbbaaGreat
namespace Can
open Go Go.RowKit
set_option linter.unusedSimpArgs false
set_option linter.unusedVariables false
set_option maxRecDepth 4000
def zNd : Nd := .mk 0 0 [] 0 []
def parseT (ts : List PT) : Nd × Int × Int := match gr ts (ts.length * 64 + 100) (.top []) 0 with
  | some (.ok (l, _)) => if 60 < htL l + 1 then (zNd, 0, 11) else (nd 1 (hdLine (nowT ts 0).line l) l, 0, 0)
  | some (.error e) => (zNd, (nowT ts e).line, 22)
  | none => (zNd, 0, 0)
noncomputable def prP : List Item × List Item × RCode × RCode × RCode := match (rF Tryz.prog 10).body with
  | .seq (.reg a) (.seq (.reg b) (.seq .bad (.seq c (.seq d e)))) => (a, b, c, d, e)
  | _ => ([], [], .skip, .skip, .skip)
theorem pr_body : (rF Tryz.prog 10).body = .seq (.reg prP.1) (.seq (.reg prP.2.1) (.seq .bad (.seq prP.2.2.1 (.seq prP.2.2.2.1 prP.2.2.2.2)))) := by kernel_rfl
theorem pr_res : (rF Tryz.prog 10).res = [.lda 5 2, .ld 3, .ld 4] := by kernel_rfl
def prK (H : CH) (sl : Sl) : CH := (((H.new (.cells [.int .i64 0, .int .i64 0, .string ⟨⟨[]⟩⟩, .int .i64 0, .slice none 0 0] 26 .ex)).new (.cells [.int .i64 0] 3 .ex)).new (.cells [.int .i64 0] 29 .ex)).new (rpC sl 0)
abbrev pP (l : Nat) : Value := .pointer (some ⟨l, 0, none⟩)
theorem pr_r0 {H : CH} {fr : Fr} {sl : Sl} (h0 : fr 0 = .slice sl.q sl.n sl.c) : WpR (tblG Tryz.prog LG GG) (.reg prP.1) fr H fun x fr1 H1 => x = .normal ∧ WpR (tblG Tryz.prog LG GG) (.reg prP.2.1) fr1 H1 fun x fr2 H2 => x = .normal ∧ fr2 2 = pP H.nx ∧ fr2 3 = pP (H.nx + 1) ∧ fr2 4 = pP (H.nx + 2) ∧ fr2 5 = pP (H.nx + 3) ∧ H2 = prK H sl := by
  have e1 : prP.1 = _ := rfl
  conv at e1 => rhs; reduce
  have e2 : prP.2.1 = _ := rfl
  conv at e2 => rhs; reduce
  rw [e1, e2]
  repeat' (first | (simp (disch := first | omega | (decide +kernel)) only [↓RD, RU, ↓putF_get, ↓evF_t, new_nx, pop, aop, akV, isVal, Value.cells, ρ0, ρ1, ρ4, ↓reduceIte, Nat.reduceEqDiff, Nat.reduceAdd, Int.reduceOfNat, reduceCtorEq, ρ7, ρ8, ρ17, ρ18, ρ19, ρ20, ρ25, ρ26, bldV, Nat.reduceLeDiff, h0]) | (with_reducible first | refine condK_dec (fun _ => ?_) fun _ => ?_ | refine grd_dec (fun _ => ?_) fun _ => ?_ | refine egrd_dec (fun _ => ?_) fun _ => ?_))
  rfl
def prZ (H : CH) (sl : Sl) : TP := ⟨fun b => ∃ o, sl.q = some ⟨b, o, none⟩, H.ob⟩
theorem prZ_in {H : CH} {sl : Sl} {ts : List PT} (h : SlAt 3 CTk H sl.q sl.c ts) {b : Nat} (hb : (prZ H sl).N b) : b < H.nx := by
  obtain ⟨o, ho⟩ := hb
  rcases h with ⟨_, _, h | h | h⟩ | ⟨l, o', os, e, k, q, hl, _⟩
  · rw [h] at ho; cases ho
  · rw [h] at ho; cases ho
  · rw [h] at ho; cases ho
  · rw [q] at ho; cases ho; exact hl
theorem prZ_ok {H : CH} {sl : Sl} {ts : List PT} (h : SlAt 3 CTk H sl.q sl.c ts) (hn : sl.n = ts.length) : TkZ (prZ H sl) sl ts := by
  refine ⟨hn, fun l o q => ⟨o, q⟩, fun K hK => ?_⟩
  rcases h with ⟨h1, h2, h3⟩ | ⟨l, o, os, e, k, q, h1, h2, h3, h4, h5, h6⟩
  · exact .inl ⟨h1, h2, h3⟩
  · obtain ⟨g1, g2⟩ := hK l ⟨o, q⟩
    exact .inr ⟨l, o, os, e, k, q, g1, h2, h3, g2.trans h4, h5, h6⟩
def prF (H : CH) : TFr := fun t => [.bad, .bad, rS (pP H.nx), rS (pP (H.nx + 1)), rS (pP (H.nx + 2)), .ptr 0 0].getD t .bad
theorem prK_nx {H : CH} {sl : Sl} : (prK H sl).nx = H.nx + 4 := rfl
theorem prK_old {H : CH} {sl : Sl} {b : Nat} (hb : b < H.nx) : (prK H sl).ob b = H.ob b := by
  unfold prK
  rw [new_ne (by simp only [new_nx]; omega), new_ne (by simp only [new_nx]; omega), new_ne (by simp only [new_nx]; omega), new_ne (by omega)]
theorem prK_r {H : CH} {sl : Sl} : (prK H sl).ob (H.nx + 3) = rpC sl 0 := new_get.trans (if_pos rfl)
theorem pr_start {H : CH} {sl : Sl} {ts : List PT} (h : SlAt 3 CTk H sl.q sl.c ts) {cfr : Fr} (c2 : cfr 2 = pP H.nx) (c3 : cfr 3 = pP (H.nx + 1)) (c4 : cfr 4 = pP (H.nx + 2)) (c5 : cfr 5 = pP (H.nx + 3)) :
    TR (prZ H sl) (prK H sl) (some (H.nx + 3)) (prK H sl) (st0 (rdR sl 0)) (prF H) cfr (E0 (some (H.nx + 3)) fun b => b < H.nx + 4 ∧ b ≠ H.nx + 3) := by
  have t0 : TR (prZ H sl) (prK H sl) (some (H.nx + 3)) (prK H sl) (st0 (rdR sl 0)) (fun t => ([] : List AV).getD t .bad) (fun t => ([] : List Value).getD t undef) (E0 (some (H.nx + 3)) fun b => b < H.nx + 4 ∧ b ≠ H.nx + 3) := by
    refine TR.start (e := none) (fun b hb => ⟨hb.1, fun e => hb.2 (by cases e; rfl)⟩) (fun b hb => ?_) .nil (self_mk (by rw [prK_nx]; omega) prK_r)
    have := prZ_in h hb
    exact ⟨by rw [prK_nx]; omega, fun e => by cases e; omega, prK_old this⟩
  refine { t0 with frm := fun t => ?_ }
  match t with
  | 0 => exact .bad
  | 1 => exact .bad
  | 2 => rw [c2]; exact rS_rel rfl
  | 3 => rw [c3]; exact rS_rel rfl
  | 4 => rw [c4]; exact rS_rel rfl
  | 5 => rw [c5]; exact .ptr rfl
  | n + 6 => exact .bad
theorem set_ne' {K : CH} {p b : Nat} {o : CObj} (h : b ≠ p) : (K.set p o).ob b = K.ob b := by
  simp only [CH.set]
  rw [if_neg h]
theorem tc_wp {T : Tbl} {X : Pan} {f : FuncId} {args : List AV} {Q : AV → List SV → Prop} (h : TC ⟨fun _ => False, fun _ => .dead⟩ T X f args none Q fun _ => False) {K : CH} {vs : List Value} (hv : R2 (AVR K (E0 none fun _ => False)) args vs) : WpF T f vs K fun v K' => HExt K K' ∧ ∃ a s', AVR K' (E0 none fun _ => False) a v ∧ Q a s' := by
  rcases h K none (fun _ => False) vs (fun _ h => h.elim) (fun _ h => h.elim) hv rfl with h | ⟨n, v, H', _, h⟩
  · exact h.mono fun v K' ⟨h1, h2, a, s', h3, _, _, h4⟩ => ⟨⟨h1, fun b hb => h2 b hb (by simp)⟩, a, s', h3, h4⟩
  · exact h.2.2.elim
attribute [local irreducible] TC isT nowT begT placeN
theorem pr_t3 {Z : TP} {X : Pan} {W : Int → Value} {ts : List PT} {sl : Sl} {H : CH} {R : Value → Prop} (C : PCtx Z X W ts sl) : twR Z (tblG Tryz.prog LG GG) X DT R prP.2.2.1 (prF H) (st0 (rdR sl 0)) fun x fr st => x = .normal ∧ (∃ nt v, st = ⟨nt, [(v, 55, (oR sl 0).2.2), (v, 26, nC 1 (nowT ts 0).line [] 0 (.s (.row 5 [])))]⟩) ∧ fr 2 = rS (pP H.nx) ∧ fr 3 = rS (pP (H.nx + 1)) ∧ fr 4 = rS (pP (H.nx + 2)) ∧ fr 5 = .ptr 0 0 ∧ fr 6 = .ptr 1 0 := by
  have e : prP.2.2.1 = _ := rfl
  conv at e => rhs; reduce
  rw [e]
  clear e
  conv => whnf
  refine now_tc C (Nat.zero_le _) ?_
  conv => whnf
  exact ⟨rfl, ⟨_, _, rfl⟩, rfl, rfl, rfl, rfl, rfl⟩
def prG (H : CH) : TFr := fun t => [.bad, .bad, rS (pP H.nx), rS (pP (H.nx + 1)), rS (pP (H.nx + 2)), .ptr 0 0, .ptr 1 0].getD t .bad
def AccT (acc : List Nd) (c : CV) : Prop := (acc = [] ∧ c = .s (.row 5 [])) ∨ ∃ t, c = .own t 26 5 (ndsS acc)
theorem pr_tL {Z : TP} {X : Pan} {W : Int → Value} {ts : List PT} {sl : Sl} {H : CH} {R : Value → Prop} (C : PCtx Z X W ts sl) {f nt v : Nat} (ih : ∀ m, m < f → PAll Z X W ts sl m) {E : Nat → Prop} {P : List Nd → Nat → Prop} (hG : Gd E P (gr ts f (.top []) 0)) (hE : ∀ e, E e → R (W (nowT ts e).line)) :
    twR Z (tblG Tryz.prog LG GG) X DT R prP.2.2.2.1 (prG H) ⟨nt, [(v, 55, (oR sl 0).2.2), (v, 26, nC 1 (nowT ts 0).line [] 0 (.s (.row 5 [])))]⟩ fun x fr st => x = .normal ∧ (∃ l j nt u v c, P l j ∧ AccT l c ∧ st = ⟨nt, [(u, 55, (oR sl j).2.2), (v, 26, nC 1 (hdLine (nowT ts 0).line l) [] 0 c)]⟩) ∧ fr 2 = rS (pP H.nx) ∧ fr 3 = rS (pP (H.nx + 1)) ∧ fr 4 = rS (pP (H.nx + 2)) ∧ fr 6 = .ptr 1 0 := by
  have e : prP.2.2.2.1 = _ := rfl
  conv at e => rhs; reduce
  rw [e]
  clear e
  have hlen := C.len
  conv => whnf
  refine loop_0 (fun m s => ∃ acc j c, AccV acc c ∧ s = ⟨1, [oR sl j, oN (nC 1 (hdLine (nowT ts 0).line acc) [] 0 c)]⟩ ∧ j ≤ ts.length ∧ m ≤ f ∧ 2 * acc.length ≤ j ∧ Gd E P (gr ts m (.top acc) j)) f [99] rfl ⟨[], _, _, .inl ⟨rfl, rfl⟩, rfl, by omega, Nat.le_refl _, by simp only [List.length_nil]; omega, hG⟩ ?_
  rintro m f1 s ⟨acc, j, c, hA, rfl, hj, hmf, hb2, hG⟩
  rcases m with _ | m
  · exact hG.elim
  have ihm := ih m (by omega)
  simp only [gr] at hG
  rcases hA with ⟨rfl, rfl⟩ | ⟨hne, rfl⟩
  rotate_left
  rcases acc with _ | ⟨⟨k2, l2, x2, o2, ks2⟩, acc⟩
  · exact absurd rfl hne
  all_goals
    try simp only [List.length_cons, List.length_nil] at hb2
    (conv => whnf)
    refine now_tc C (by omega) ?_
    (conv => whnf)
    generalize hk : ((nowT ts j).kind != Int.ofNat 0) = bb
    cases bb
    · have hk0 : (nowT ts j).kind = 0 := by simpa using hk
      rw [if_pos hk0] at hG
      (conv => whnf)
      first
        | exact ⟨rfl, ⟨_, _, _, _, _, _, hG, .inr ⟨_, rfl⟩, rfl⟩, rfl, rfl, rfl, rfl⟩
        | exact ⟨rfl, ⟨_, _, _, _, _, _, hG, .inl ⟨rfl, rfl⟩, rfl⟩, rfl, rfl, rfl, rfl⟩
    · have hk0 : ¬ (nowT ts j).kind = 0 := by simpa using hk
      rw [if_neg hk0] at hG
      have hlt := kd_lt hk0
      (conv => whnf)
      repeat' first
        | (refine rul_st ihm.stmt hG (by trivial) rfl (by intro e he; first | exact hE e he | exact ⟨True.intro, hE e he⟩) (by omega) ?_; intro n1 l1 x1 o1 ks1 j1 hp1 hj1 hG; simp only [NT.min] at hp1; (conv => whnf))
        | (intro (hmx : _ ≤ maxLen); (conv => whnf))
        | exact ⟨m, [2], by omega, rfl, _, _, _, accV_app rfl, rfl, by omega, by omega, (by simp only [List.length_append, List.length_cons, List.length_nil] at *; omega), hG⟩
        | (refine ⟨rfl, 0, _, rfl, rfl, ?_⟩; (conv => whnf))
        | (refine ⟨rfl, ?_⟩; (conv => whnf))
        | (refine ⟨bdA (by simp only [List.length_append, List.length_cons, List.length_nil, ndsS_len]; omega), ?_⟩; (conv => whnf))
theorem row_slc {K : CH} {A : Nat → Prop} {sz : Nat} {gs : List (List SV)} {w : Value} (h : SVR K A (.row sz gs) w) : ∃ a n c, w = .slice a n c := by
  cases h with
  | row0 => exact ⟨_, _, _, rfl⟩
  | row => exact ⟨_, _, _, rfl⟩
theorem nd_rel {K : CH} {A : Nat → Prop} (hA : ∀ b, A b → b < K.nx) {k : Nat} {l : Int} {x : List UInt8} {o : Nat} {ks : List Nd} {w : Value} (hw : SVR K A (.row 5 (ndsS ks)) w) : R2 (AVR K (E0 none fun _ => False)) [ndA (.mk k l x o ks)] [.agg #[.int .i64 (k : Nat), .int .i64 l, .string ⟨⟨x⟩⟩, .int .i64 (o : Nat), w]] := by
  refine .cons ?_ .nil
  have hw' : SVR K (Frz K (E0 none fun _ => False)) (.row 5 (ndsS ks)) w := hw.mv fun b hb => ⟨⟨hA b hb, fun h => h, (fun _ q => (by cases q)), fun o q => (by
    have q : (if o = 0 then none else none) = some b := q
    split at q <;> cases q)⟩, rfl⟩
  exact .r (.agg (vs := [.int .i64 (k : Nat), .int .i64 l, .string ⟨⟨x⟩⟩, .int .i64 (o : Nat), w]) (.cons (.s (.sc rfl)) (.cons (.s (.sc rfl)) (.cons (.s (.sc rfl)) (.cons (.s (.sc rfl)) (.cons (.s hw') .nil))))))
theorem height_wp {K : CH} {A : Nat → Prop} (hA : ∀ b, A b → b < K.nx) {k : Nat} {l : Int} {x : List UInt8} {o : Nat} {ks : List Nd} {w : Value} (hw : SVR K A (.row 5 (ndsS ks)) w) (hh : htL ks + 1 ≤ 9223372036854775807) : WpF (tblG Tryz.prog LG GG) 17 [.agg #[.int .i64 (k : Nat), .int .i64 l, .string ⟨⟨x⟩⟩, .int .i64 (o : Nat), w]] K fun v K' => HExt K K' ∧ v = .int .i64 (htL ks + 1 : Nat) :=
  (tc_wp (X := pX) (height_tc (nsz (.mk k l x o ks) + 1) k l x o ks (Nat.lt_succ_self _) hh (fun a _ => a = rS (.int .i64 (htL ks + 1 : Nat))) _ rfl) (nd_rel hA hw)).mono fun v K' ⟨h1, a, s', h2, h3⟩ => ⟨h1, by subst h3; exact raw_rel h2 rfl⟩
def PrO (H : CH) (t : Nd) (ln er : Int) (vs : List Value) (K' : CH) : Prop := HExt H K' ∧ ∃ os, vs = [.agg os.toArray, .int .i64 ln, .int .i64 er] ∧ SVRs K' (fun b => H.nx ≤ b ∧ b < K'.nx) (ndS t) os
def TyV (vs : List Value) (K' : CH) : Prop := ∀ a0 a1 a2 a3 b n c r, vs = .agg #[a0, a1, a2, a3, .slice (some ⟨b, 0, none⟩) n c] :: r → ∃ cs kd, K'.ob b = .cells cs 26 kd
theorem pr_rest {H K : CH} {fr : Fr} {b : Nat} {l : List Nd} {ln : Int} {w : Value} (h2 : fr 2 = pP H.nx) (h3 : fr 3 = pP (H.nx + 1)) (h4 : fr 4 = pP (H.nx + 2)) (h6 : fr 6 = pP b) (o2 : K.ob H.nx = .cells [.int .i64 0, .int .i64 0, .string ⟨⟨[]⟩⟩, .int .i64 0, .slice none 0 0] 26 .ex) (o3 : K.ob (H.nx + 1) = .cells [.int .i64 0] 3 .ex) (o4 : K.ob (H.nx + 2) = .cells [.int .i64 0] 29 .ex)
    (o6 : K.ob b = .cells [.int .i64 1, .int .i64 ln, .string ⟨⟨[]⟩⟩, .int .i64 0, w] 26 .ex) (hn : H.nx + 4 ≤ K.nx) (hb : b < K.nx) (hb4 : H.nx + 4 ≤ b) (hw : SVR K (fun b => H.nx + 4 ≤ b ∧ b < K.nx) (.row 5 (ndsS l)) w) (hh : htL l + 1 ≤ 9223372036854775807) (hold : ∀ b, b < H.nx → K.ob b = H.ob b) (hty : ∀ b n c, w = .slice (some ⟨b, 0, none⟩) n c → b < K.nx ∧ H.nx + 4 ≤ b ∧ ∃ cs kd, K.ob b = .cells cs 26 kd) :
    WpR (tblG Tryz.prog LG GG) prP.2.2.2.2 fr K fun x fr' K' => x = .ret ∧ ∃ vs, resL fr' K' [.lda 5 2, .ld 3, .ld 4] = some vs ∧ PrO H (if 60 < htL l + 1 then zNd else .mk 1 ln [] 0 l) 0 (if 60 < htL l + 1 then 11 else 0) vs K' ∧ TyV vs K' := by
  obtain ⟨wa, wn, wc, rfl⟩ : ∃ a n c, w = .slice a n c := by
    exact row_slc hw
  have e : prP.2.2.2.2 = _ := rfl
  conv at e => rhs; reduce
  rw [e]
  clear e
  repeat' (first | (simp (disch := first | omega | (decide +kernel)) only [↓RD, RU, ↓putF_get, ↓evF_t, lop, resL, resV, ρ0, ρ1, ↓reduceIte, Nat.reduceAdd, Int.reduceOfNat, ρ7, ρ8, ρ15, ρ18, h6, o6]) | (with_reducible first | refine condK_dec (fun _ => ?_) fun _ => ?_ | refine grd_dec (fun _ => ?_) fun _ => ?_ | refine egrd_dec (fun _ => ?_) fun _ => ?_))
  refine (height_wp (k := 1) (x := []) (o := 0) (fun _ h => h.2) hw hh).mono fun v K4 ⟨hx, e⟩ => ?_
  subst e
  have g2 := (hx.ob _ (show H.nx < K.nx by omega)).trans o2
  have g3 := (hx.ob _ (show H.nx + 1 < K.nx by omega)).trans o3
  have g4 := (hx.ob _ (show H.nx + 2 < K.nx by omega)).trans o4
  have g6 := (hx.ob _ hb).trans o6
  have hnx := hx.nx
  have hH4 : HExt H K4 := ⟨by omega, fun b hb => (hx.ob b (by omega)).trans (hold b hb)⟩
  by_cases h60 : 60 < htL l + 1
  · have hb1 : decide ((60 : Int) < ((htL l + 1 : Nat) : Int)) = true := decide_eq_true (by omega)
    repeat' (first | (simp (disch := first | omega | (decide +kernel)) only [↓RD, RU, ↓putF_get, ↓putF_none, ↓evF_t, ↓evF_c, set_get, pop, wop, isVal, isCell, Value.cells, ρ1, ρ4, ↓reduceIte, Nat.reduceEqDiff, Nat.reduceAdd, ρ5, ρ7, ρ8, ρ15, ρ17, ρ18, ρ21, ρ22, ρ23, Kd.isRo, ρ25, ρ26, bldV, h2, h3, h4, g2, g3, g4]) | (with_reducible first | refine condK_dec (fun _ => ?_) fun _ => ?_ | refine grd_dec (fun _ => ?_) fun _ => ?_ | refine egrd_dec (fun _ => ?_) fun _ => ?_))
    refine ⟨_, rfl, ⟨((hH4.set (Nat.le_refl _) _).set (by omega) _).set (by omega) _, _, rfl, .cons (.sc rfl) (.cons (.sc rfl) (.cons (.sc rfl) (.cons (.sc rfl) (.cons .row0 .nil))))⟩, ?_⟩
    intro a0 a1 a2 a3 b n c r e
    simp at e
  · have hb1 : decide ((60 : Int) < ((htL l + 1 : Nat) : Int)) = false := decide_eq_false (by omega)
    repeat' (first | (simp (disch := first | omega | (decide +kernel)) only [↓RD, RU, ↓putF_get, ↓putF_none, ↓evF_t, ↓evF_c, set_get, pop, lop, wop, isVal, isCell, Value.cells, ↓reduceIte, Nat.reduceEqDiff, Nat.reduceAdd, ρ5, ρ7, ρ8, ρ15, ρ17, ρ18, ρ21, ρ22, ρ23, Kd.isRo, ρ25, ρ26, h2, h3, h4, h6, g2, g3, g4, g6]) | (with_reducible first | refine condK_dec (fun _ => ?_) fun _ => ?_ | refine grd_dec (fun _ => ?_) fun _ => ?_ | refine egrd_dec (fun _ => ?_) fun _ => ?_))
    refine ⟨_, rfl, ⟨((hH4.set (Nat.le_refl _) _).set (by omega) _).set (by omega) _, _, rfl, .cons (.sc rfl) (.cons (.sc rfl) (.cons (.sc rfl) (.cons (.sc rfl) (.cons (hw.mv fun b hb => ⟨⟨by omega, Nat.lt_of_lt_of_le hb.2 hnx⟩, ?_⟩) .nil))))⟩, ?_⟩
    · rw [set_ne' (by omega), set_ne' (by omega), set_ne' (by omega)]
      exact hx.ob b hb.2
    · intro a0 a1 a2 a3 b n c r e
      simp only [List.cons.injEq, Value.agg.injEq, Array.mk.injEq] at e
      obtain ⟨⟨_, _, _, _, e, _⟩, _⟩ := e
      obtain ⟨q1, q2, cs, kd, q3⟩ := hty b n c e
      exact ⟨cs, kd, by rw [set_ne' (by omega), set_ne' (by omega), set_ne' (by omega), hx.ob b q1]; exact q3⟩
end Can
end Go.Proofs.YtnankhlanilbbaaGreat
end
section
namespace Go.Proofs.YtnankhlanilbbaaGreat
namespace Can
open Go Go.RowKit
set_option linter.unusedSimpArgs false
set_option linter.unusedVariables false
set_option maxRecDepth 4000
theorem gd_eval {H K : CH} {l : Int} (o2 : K.ob H.nx = .cells [.int .i64 0, .int .i64 0, .string ⟨⟨[]⟩⟩, .int .i64 0, .slice none 0 0] 26 .ex) (o3 : K.ob (H.nx + 1) = .cells [.int .i64 0] 3 .ex) (o4 : K.ob (H.nx + 2) = .cells [.int .i64 0] 29 .ex) (hn : H.nx + 4 ≤ K.nx) :
    gdG [pP H.nx, pP (H.nx + 1), pP (H.nx + 2)] (wrV l) K ((((gdH K l).set H.nx (.cells [.int .i64 0, .int .i64 0, .string ⟨⟨[]⟩⟩, .int .i64 0, .slice none 0 0] 26 .ex)).set (H.nx + 1) (.cells [.int .i64 l] 3 .ex)).set (H.nx + 2) (.cells [.int .i64 22] 29 .ex)) := by
  refine ⟨rfl, l, rfl, ?_⟩
  unfold gdH
  conv in gdD => reduce
  have hn0 : H.nx ≠ K.nx := by omega
  have hn1 : H.nx + 1 ≠ K.nx := by omega
  have hn2 : H.nx + 2 ≠ K.nx := by omega
  repeat' (first | (simp (disch := first | omega | (decide +kernel)) only [↓RD, RU, accW_t, accW_f, isW, ↓putF_get, ↓putF_none, ↓evF_t, ↓evF_c, new_get, set_get, getD_zero, getD_succ, pop, lop, wop, isVal, isCell, Value.cells, ρ1, ρ4, ↓reduceIte, Nat.reduceEqDiff, Nat.reduceAdd, Int.reduceOfNat, reduceCtorEq, ρ5, ρ6, ρ7, ρ8, ρ17, ρ19, ρ20, ρ21, ρ22, ρ23, Kd.isRo, ρ25, ρ26, bldV, ρ28, o2, o3, o4, hn0, hn1, hn2]) | (with_reducible first | refine condK_dec (fun _ => ?_) fun _ => ?_ | refine grd_dec (fun _ => ?_) fun _ => ?_ | refine egrd_dec (fun _ => ?_) fun _ => ?_))
theorem fn_ok {P : Program} {f : Nat} (h : (resFunc P (fun N ops => resD P N ops) f).isSome = true) : FuncOk P f (rF P f) := by
  refine resFunc_ok (fun N ops d h => resD_ok h) (rd := fun N ops => resD P N ops) ?_
  unfold rF
  cases hr : resFunc P (fun N ops => resD P N ops) f with
  | none => rw [hr] at h; cases h
  | some r => rfl
theorem prK_2 {H : CH} {sl : Sl} : (prK H sl).ob H.nx = .cells [.int .i64 0, .int .i64 0, .string ⟨⟨[]⟩⟩, .int .i64 0, .slice none 0 0] 26 .ex := by
  unfold prK
  rw [new_ne (by simp only [new_nx]; omega), new_ne (by simp only [new_nx]; omega), new_ne (by simp only [new_nx]; omega)]
  exact new_get.trans (if_pos rfl)
theorem prK_3 {H : CH} {sl : Sl} : (prK H sl).ob (H.nx + 1) = .cells [.int .i64 0] 3 .ex := by
  unfold prK
  rw [new_ne (by simp only [new_nx]; omega), new_ne (by simp only [new_nx]; omega)]
  exact new_get.trans (if_pos rfl)
theorem prK_4 {H : CH} {sl : Sl} : (prK H sl).ob (H.nx + 2) = .cells [.int .i64 0] 29 .ex := by
  unfold prK
  rw [new_ne (by simp only [new_nx]; omega)]
  exact new_get.trans (if_pos rfl)
def PrQ2 (H : CH) (ts : List PT) (v : Value) (H' : CH) : Prop := ∃ vs, v = tupleV vs ∧ PrO H (parseT ts).1 (parseT ts).2.1 (parseT ts).2.2 vs H' ∧ TyV vs H'
def PrQ (H : CH) (ts : List PT) (v : Value) (H' : CH) : Prop := ∃ vs, v = tupleV vs ∧ PrO H (parseT ts).1 (parseT ts).2.1 (parseT ts).2.2 vs H'
theorem top_gd {ts : List PT} : Gd (fun e => gr ts (ts.length * 64 + 100) (.top []) 0 = some (.error e)) (fun l j => gr ts (ts.length * 64 + 100) (.top []) 0 = some (.ok (l, j)) ∧ htL l + 1 ≤ 64 * ts.length + 2) (gr ts (ts.length * 64 + 100) (.top []) 0) := by
  have h1 := gr_gd (ts := ts) (ts.length * 64 + 100) (.top []) 0 trivial (Nat.zero_le _) (by simp only [NT.rank]; omega)
  have h2 := gr_ht (ts := ts) (ts.length * 64 + 100) (.top []) 0 trivial (Nat.zero_le _) (by simp only [NT.rank]; omega)
  match h : gr ts (ts.length * 64 + 100) (.top []) 0, h1, h2 with
  | some (.error e), _, _ => exact rfl
  | some (.ok (l, j)), h1, h2 =>
    refine ⟨rfl, ?_⟩
    have h3 : szL l + 64 * 0 + 0 ≤ 0 + 64 * j + 0 := h2
    have h4 := h1.2.1
    have h5 := ht_szL l
    omega
theorem cS_inv {K : CH} {E : TE} {v w : Value} (h : CVR K E (cS v) w) : w = v := by
  cases h with
  | s h => cases h; rfl
theorem own_row {K : CH} {E : TE} {A : Nat → Prop} {t sz : Nat} {e : TypeId} {gs : List (List SV)} {w : Value} (h : CVR K E (.own t e sz gs) w) (h1 : ∀ b, Frz K E b → A b) (h2 : ∀ b, E.σ t = some b → A b) : SVR K A (.row sz gs) w := by
  cases h with
  | own0 => exact .row0
  | own hne hb ho hk hg hs => exact .row hne (h2 _ hb) ho hk hg (hs.mv fun b hb => ⟨h1 b hb, rfl⟩)
theorem parse_call {H : CH} {sl : Sl} {ts : List PT} (h : SlAt 3 CTk H sl.q sl.c ts) (hn : sl.n = ts.length) (hlen : ts.length ≤ 4398046510976) : ∃ v H', PrQ2 H ts v H' ∧ ∀ B, CallC Tryz.prog B 10 [.slice sl.q sl.n sl.c] H v H' := by
  refine guard_calls (T := (tblG Tryz.prog LG GG)) (X := pX) (G := gdG) (g := 22) (d := 10) (x1 := 2) (x2 := 3) (x3 := 4) (fun B => tg_ok) (fun B f args H v H' => fail_ok) (fn_ok (by kernel_rfl)) pr_body (by rfl) (by kernel_rfl) (Nat.lt_of_lt_of_eq (by decide : 10 < 37) (by kernel_rfl : 37 = (rF Tryz.prog 10).ntmps)) gd_ret (fun B => gd_pan) ?_
  refine (pr_r0 (sl := sl) rfl).mono fun x fr1 H1 ⟨hx, hw⟩ => ⟨hx, hw.mono fun x fr2 H2 ⟨hx, c2, c3, c4, c5, e⟩ => ⟨hx, ?_⟩⟩
  subst e
  have C := pctx (prZ_ok h hn) hlen
  have hc : ∀ t, t ≠ 10 → putF fr2 (some 10) undef t = fr2 t := fun t ht => if_neg ht
  have t0 := pr_start (cfr := putF fr2 (some 10) undef) h ((hc 2 (by decide)).trans c2) ((hc 3 (by decide)).trans c3) ((hc 4 (by decide)).trans c4) ((hc 5 (by decide)).trans c5)
  let Rp : Value → Prop := fun v => ∃ e, gr ts (ts.length * 64 + 100) (.top []) 0 = some (.error e) ∧ v = wrV (nowT ts e).line
  have hpan : ∀ v K3, PX (prK H sl) (some (H.nx + 3)) Rp v K3 → ∃ H4, gdG [fr2 2, fr2 3, fr2 4] v K3 H4 ∧ ∃ vs, resL (mskF (.seq prP.2.2.1 (.seq prP.2.2.2.1 prP.2.2.2.2)) (putF fr2 (some 10) undef)) H4 (rF Tryz.prog 10).res = some vs ∧ PrQ2 H ts (tupleV vs) H4 := by
    rintro v K3 ⟨g1, g2, e, hg, rfl⟩
    rw [prK_nx] at g1 g2
    have o2 := (g2 H.nx (by omega) (fun e => by injection e; omega)).trans prK_2
    have o3 := (g2 (H.nx + 1) (by omega) (fun e => by injection e; omega)).trans prK_3
    have o4 := (g2 (H.nx + 2) (by omega) (fun e => by injection e; omega)).trans prK_4
    rw [c2, c3, c4]
    refine ⟨_, gd_eval o2 o3 o4 g1, ?_⟩
    have hH3 : HExt H K3 := ⟨by omega, fun b hb => (g2 b (by omega) (fun e => by injection e; omega)).trans (prK_old hb)⟩
    have hm : ∀ t, t ≠ 10 → (wrR (.seq prP.2.2.1 (.seq prP.2.2.2.1 prP.2.2.2.2))).elem t = false → mskF (.seq prP.2.2.1 (.seq prP.2.2.2.1 prP.2.2.2.2)) (putF fr2 (some 10) undef) t = fr2 t := fun t ht hw => by
      unfold mskF
      rw [hw]
      exact hc t ht
    have m2 := (hm 2 (by decide) (by kernel_rfl)).trans c2
    have m3 := (hm 3 (by decide) (by kernel_rfl)).trans c3
    have m4 := (hm 4 (by decide) (by kernel_rfl)).trans c4
    rw [pr_res]
    unfold gdH
    have hn0 : H.nx ≠ K3.nx := by omega
    have hn1 : H.nx + 1 ≠ K3.nx := by omega
    have hn2 : H.nx + 2 ≠ K3.nx := by omega
    repeat' (first | (simp (disch := first | omega | (decide +kernel)) only [RU, ↓evF_t, set_get, lop, resL, resV, tupleV, ↓reduceIte, Nat.reduceEqDiff, Nat.reduceAdd, ρ5, ρ7, ρ8, ρ15, ρ18, m2, m3, m4]) | (with_reducible first | refine condK_dec (fun _ => ?_) fun _ => ?_ | refine grd_dec (fun _ => ?_) fun _ => ?_ | refine egrd_dec (fun _ => ?_) fun _ => ?_))
    refine ⟨_, rfl, [_, _, _], rfl, ?_⟩
    have ht : parseT ts = (zNd, (nowT ts e).line, 22) := by unfold parseT; rw [hg]
    rw [ht]
    refine ⟨⟨((((hH3.new _).set (by omega) _).set (Nat.le_refl _) _).set (by omega) _).set (by omega) _, _, rfl, .cons (.sc rfl) (.cons (.sc rfl) (.cons (.sc rfl) (.cons (.sc rfl) (.cons .row0 .nil))))⟩, ?_⟩
    intro a0 a1 a2 a3 b n c r e
    simp at e
  refine wxR_seq ((twR_sound dt_ok t0 (pr_t3 (R := Rp) C)).mono ?_ hpan)
  rintro x cfr3 K3 ⟨fr3, st3, E3, t1, s1, rfl, ⟨nt, u, rfl⟩, g2, g3, g4, g5, g6⟩
  have t1' : TR (prZ H sl) (prK H sl) (some (H.nx + 3)) K3 ⟨nt, [(u, 55, (oR sl 0).2.2), (u, 26, nC 1 (nowT ts 0).line [] 0 (.s (.row 5 [])))]⟩ (prG H) cfr3 E3 := by
    refine { t1 with frm := fun t => ?_ }
    match t with
    | 0 => exact .bad
    | 1 => exact .bad
    | 2 => have := t1.frm 2; rw [g2] at this; exact this
    | 3 => have := t1.frm 3; rw [g3] at this; exact this
    | 4 => have := t1.frm 4; rw [g4] at this; exact this
    | 5 => have := t1.frm 5; rw [g5] at this; exact this
    | 6 => have := t1.frm 6; rw [g6] at this; exact this
    | n + 7 => exact .bad
  show WxR (tblG Tryz.prog LG GG) pX (.seq prP.2.2.2.1 prP.2.2.2.2) cfr3 K3 _ _
  refine wxR_seq ((twR_sound dt_ok t1' (pr_tL C (fun m _ => pall C m) top_gd fun e he => ⟨e, he, rfl⟩)).mono ?_ hpan)
  rintro x cfr4 K4 ⟨fr4, st4, E4, t2, s2, rfl, ⟨l, j, nt2, u1, u2, c, ⟨hgr, hht⟩, hacc, rfl⟩, g2, g3, g4, g6⟩
  have hp : ∀ t l, fr4 t = rS (pP l) → cfr4 t = pP l := fun t l e => by
    have := t2.frm t
    rw [e] at this
    exact raw_rel this rfl
  have hhid : E4.hid = fun b => b < H.nx + 4 ∧ b ≠ H.nx + 3 := s2.hid.trans s1.hid
  have hr0 : E4.ρ 0 = some (H.nx + 3) := s2.rho _ _ (s1.rho _ _ rfl)
  obtain ⟨b, os, hb1, hb2, hb3⟩ := t2.obs 1 _ _ _ rfl
  have h6 : cfr4 6 = pP b := by
    have := t2.frm 6
    rw [g6] at this
    obtain ⟨b', q1, q2⟩ := this.ptr_inv
    rw [hb1] at q1; cases q1
    exact q2
  obtain ⟨hbn, hbk, _⟩ := t2.rho 1 b hb1
  have hne3 : b ≠ H.nx + 3 := fun e => by
    have := t2.rinj 0 1 b (by rw [hr0, e]) hb1
    cases this
  have hb4 : H.nx + 4 ≤ b := by
    rcases hbk with q | q
    · rw [prK_nx] at q; exact q
    · injection q with q; exact absurd q.symm hne3
  have hnx := t2.nx
  rw [prK_nx] at hnx
  have hfz : ∀ b, Frz K4 E4 b → H.nx + 4 ≤ b ∧ b < K4.nx := fun b ⟨f1, f2, f3, f4⟩ => by
    rw [hhid] at f2
    have : b ≠ H.nx + 3 := fun e => f4 0 (by rw [hr0, e])
    exact ⟨by omega, f1⟩
  have hkeep : ∀ b, b < H.nx + 3 → K4.ob b = (prK H sl).ob b := fun b hb => t2.keep b (by rw [prK_nx]; omega) (fun e => by injection e; omega)
  have hw : ∀ w, CVR K4 E4 c w → SVR K4 (fun b => H.nx + 4 ≤ b ∧ b < K4.nx) (.row 5 (ndsS l)) w := fun w hc => by
    rcases hacc with ⟨rfl, rfl⟩ | ⟨t, rfl⟩
    · cases hc with
      | s h => exact h.mv fun b hb => ⟨hfz b hb, rfl⟩
    · exact own_row hc hfz fun b hb => ⟨by have := (t2.sig t b hb).1; rw [prK_nx] at this; exact this, (t2.sig t b hb).2.1⟩
  have hty : ∀ w, CVR K4 E4 c w → ∀ b n c', w = .slice (some ⟨b, 0, none⟩) n c' → b < K4.nx ∧ H.nx + 4 ≤ b ∧ ∃ cs kd, K4.ob b = .cells cs 26 kd := fun w hc b n c' ew => by
    subst ew
    rcases hacc with ⟨rfl, rfl⟩ | ⟨t, rfl⟩
    · cases hc with
      | s h => cases h with | row hne _ _ _ _ _ => exact absurd rfl hne.1
    · generalize ndsS l = gs at hc
      cases hc with
      | own hne hb ho hk hg hs => exact ⟨(t2.sig t b hb).2.1, by have := (t2.sig t b hb).1; rw [prK_nx] at this; exact this, _, _, ho⟩
  cases hb3 with | cons a1 hb3 =>
  cases hb3 with | cons a2 hb3 =>
  cases hb3 with | cons a3 hb3 =>
  cases hb3 with | cons a4 hb3 =>
  cases hb3 with | cons a5 hb3 =>
  cases hb3
  have e1 := cS_inv a1
  have e2 := cS_inv a2
  have e3 := cS_inv a3
  have e4 := cS_inv a4
  subst e1 e2 e3 e4
  refine .inl ((pr_rest (H := H) (hp 2 _ g2) (hp 3 _ g3) (hp 4 _ g4) h6 ((hkeep _ (by omega)).trans prK_2) ((hkeep _ (by omega)).trans prK_3) ((hkeep _ (by omega)).trans prK_4) hb2 hnx hbn hb4 (hw _ a5) (by omega) (fun b hb => (hkeep b (by omega)).trans (prK_old hb)) (hty _ a5)).mono fun x fr' K' ⟨q1, vs, q2, q3, q4⟩ => ⟨.inr q1, vs, ?_, vs, rfl, ?_, q4⟩)
  · rw [pr_res]; exact q2
  · have ht : parseT ts = if 60 < htL l + 1 then (zNd, 0, 11) else (nd 1 (hdLine (nowT ts 0).line l) l, 0, 0) := by unfold parseT; rw [hgr]
    rw [ht]
    by_cases h60 : 60 < htL l + 1
    · rw [if_pos h60, if_pos h60] at q3
      rw [if_pos h60]
      exact q3
    · rw [if_neg h60, if_neg h60] at q3
      rw [if_neg h60]
      exact q3
end Can
end Go.Proofs.YtnankhlanilbbaaGreat
end
section
namespace Go.Proofs.YtnankhlanilbbaaGreat
namespace Can
open Go Go.RowKit
set_option linter.unusedSimpArgs false
set_option linter.unusedVariables false
set_option maxRecDepth 4000
noncomputable def runM (n : Nat) (f : FuncId) (args : List Value) (H : CH) : Option (Value × CH) :=
  (evHc LG GG (resFunc Tryz.prog (fun N ops => resD Tryz.prog N ops)) (resLoop Tryz.prog (fun N ops => resD Tryz.prog N ops)) n).call f args H
theorem wpF_runM {n : Nat} {f : FuncId} {args : List Value} {H : CH} {r : Value × CH} (h : runM n f args H = some r) : WpF (tblG Tryz.prog LG GG) f args H fun v K => v = r.1 ∧ K = r.2 :=
  ⟨n, r.1, r.2, (evHc_ok (T := tblG Tryz.prog LG GG) (fun _ => rfl) (fun _ _ _ => rfl) n).call _ _ _ _ h, rfl, rfl⟩
def bsV (l : List UInt8) : List Value := l.map fun b => .int .u8 b.toNat
def src1 : List UInt8 := [97, 32, 61, 32, 98, 44, 32, 49]
def src2 : List UInt8 := [98, 10, 49, 32, 61, 32, 97]
noncomputable def lexR (l : List UInt8) : Option (Value × CH) := runM 200 16 [.slice (some ⟨0, 0, none⟩) l.length l.length] (noH.new (.cells (bsV l) 5 .ex))
def toks1 : List PT := [⟨4, 1, [97]⟩, ⟨9, 1, [61]⟩, ⟨4, 1, [98]⟩, ⟨9, 1, [44]⟩, ⟨5, 1, [49]⟩, ⟨1, 1, []⟩, ⟨0, 1, []⟩]
def toks2 : List PT := [⟨4, 1, [98]⟩, ⟨1, 1, []⟩, ⟨5, 2, [49]⟩, ⟨9, 2, [61]⟩, ⟨4, 2, [97]⟩, ⟨1, 2, []⟩, ⟨0, 2, []⟩]
def slL : Value → Nat
  | .tuple #[.slice (some ⟨l, 0, none⟩) m c, _, _] => l
  | _ => 0
noncomputable def lexL (l : List UInt8) : Nat := ((lexR l).map fun r => slL r.1).getD 0
theorem lex1 : (lexR src1).map (fun r => (r.1, r.2.ob 0, r.2.ob (slL r.1), Nat.beq (slL r.1) 0)) = some (.tuple #[.slice (some ⟨lexL src1, 0, none⟩) 7 7, .int .i64 0, .int .i64 0], .cells (bsV src1) 5 .ex, .cells ((toks1.map tokV).flatten) 50 .gr, false) := by kernel_rfl
theorem lex2 : (lexR src2).map (fun r => (r.1, r.2.ob 0, r.2.ob (slL r.1), Nat.beq (slL r.1) 0)) = some (.tuple #[.slice (some ⟨lexL src2, 0, none⟩) 7 7, .int .i64 0, .int .i64 0], .cells (bsV src2) 5 .ex, .cells ((toks2.map tokV).flatten) 50 .gr, false) := by kernel_rfl
theorem lex_call {src : List UInt8} {ts : List PT} {m c : Nat} (h : (lexR src).map (fun r => (r.1, r.2.ob 0, r.2.ob (slL r.1), Nat.beq (slL r.1) 0)) = some (.tuple #[.slice (some ⟨lexL src, 0, none⟩) m c, .int .i64 0, .int .i64 0], .cells (bsV src) 5 .ex, .cells ((ts.map tokV).flatten) 50 .gr, false)) {H : CH} {p : Nat} (hp : H.ob p = .cells (bsV src) 5 .ex) :
    ∀ B, CallC Tryz.prog B 16 [.slice (some ⟨p, 0, none⟩) src.length src.length] H (.tuple #[.slice (some ⟨H.nx, 0, none⟩) m c, .int .i64 0, .int .i64 0]) (H.new (.cells ((ts.map tokV).flatten) 50 .gr)) := by
  cases hr : lexR src with
  | none => rw [hr] at h; cases h
  | some r =>
    rw [hr] at h
    simp only [Option.map_some, Option.some.injEq, Prod.mk.injEq] at h
    obtain ⟨h1, h2, h3, h4⟩ := h
    have hl : slL r.1 = lexL src := by rw [h1]; rfl
    rw [hl] at h3 h4
    have h0 : lexL src ≠ 0 := fun e => by rw [e] at h4; cases h4
    refine call_frame (l := lexL src) (H1 := r.2) ?_ ?_ rfl rfl (fun B => ?_) h2 h3 h0 (by simp) hp
    · simp [closedC, bsV, closedV]
    · simp only [closedC, List.all_eq_true]
      intro v hv
      obtain ⟨l, hl, hv⟩ := List.mem_flatten.1 hv
      obtain ⟨t, _, rfl⟩ := List.mem_map.1 hl
      simp only [tokV, List.mem_cons, List.not_mem_nil, or_false] at hv
      rcases hv with rfl | rfl | rfl <;> rfl
    · obtain ⟨v, K, ⟨e1, e2⟩, hc⟩ := tell_wp (T := (tblG Tryz.prog LG GG)) (fun B => tg_ok) (by kernel_rfl) (wpF_runM hr)
      have := hc B
      rw [e1, h1, e2] at this
      exact this
end Can
end Go.Proofs.YtnankhlanilbbaaGreat
end
section
namespace Go.Proofs.YtnankhlanilbbaaGreat
namespace Can
open Go Go.RowKit
set_option linter.unusedSimpArgs false
set_option linter.unusedVariables false
set_option maxRecDepth 4000
def rdC (sl : Sl) (i : Nat) (b : Bool) : CObj := .cells [.slice sl.q sl.n sl.c, .int .i64 (i : Nat), .bool b] 47 .ex
structure RdD (K : CH) (p : Nat) (sl : Sl) (ts : List PT) (i : Nat) (b : Bool) : Prop where
  ob : K.ob p = rdC sl i b
  pl : p < K.nx
  il : i ≤ ts.length
  n : sl.n = ts.length
  tk : SlAt 3 CTk K sl.q sl.c ts
theorem RdD.len {K : CH} {p : Nat} {sl : Sl} {ts : List PT} {i : Nat} {b : Bool} (h : RdD K p sl ts i b) : ts.length ≤ 9223372036854775807 := by
  rcases h.tk with ⟨rfl, _⟩ | ⟨l, o, os, e, kd, _, _, h2, h3, _⟩
  · simp
  · rw [maxLen_eq] at h3; omega
theorem dnow_wp {K : CH} {p : Nat} {sl : Sl} {ts : List PT} {i : Nat} {b : Bool} (h : RdD K p sl ts i b) : WpF (tblG Tryz.prog LG GG) 19 [.pointer (some ⟨p, 0, none⟩)] K fun v K' => v = .agg (tokV (nowT ts i)).toArray ∧ K' = K.new (tkC (nowT ts i)) := by
  have hob := h.ob
  have hpl := h.pl
  have hln := h.len
  have hil := h.il
  unfold rdC at hob
  rw [h.n] at hob
  refine wpF_rG (by rfl) (by kernel_rfl) ?_; (conv in (rF _ _).body => reduce); (conv in (rF _ _).res => reduce)
  by_cases hi : i < ts.length
  · obtain ⟨l, o, os, e, kd, hq, g1, g2, g3, g4, g5⟩ := tk_get h.tk hi
    have hn : nowT ts i = ts[i] := by unfold nowT; rw [List.getElem?_eq_getElem hi]
    rw [hn]
    rw [hq] at hob
    unfold tokV at g4 ⊢
    repeat' (first | (simp (disch := first | omega | (decide +kernel)) only [↓RD, RU, ↓putF_get, ↓putF_none, ↓evF_t, new_get, set_get, getD_zero, pop, lop, aop, wop, resL, resV, tupleV, akV, isVal, isCell, Value.cells, ↓reduceIte, Nat.reduceEqDiff, Nat.reduceAdd, Int.reduceOfNat, reduceCtorEq, ρ5, ρ6, ρ7, ρ8, ρ15, ρ17, ρ18, ρ21, ρ22, ρ23, Kd.isRo, ρ25, ρ26, ρ28, ρ29, hob, g1, g3, g4]) | (with_reducible first | refine condK_dec (fun _ => ?_) fun _ => ?_ | refine grd_dec (fun _ => ?_) fun _ => ?_ | refine egrd_dec (fun _ => ?_) fun _ => ?_))
    all_goals exact new_set
  · by_cases h0 : 0 < ts.length
    · obtain ⟨l, o, os, e, kd, hq, g1, g2, g3, g4, g5⟩ := tk_get h.tk (i := ts.length - 1) (by omega)
      have hn : nowT ts i = ⟨0, ts[ts.length - 1].line, []⟩ := by
        unfold nowT
        rw [List.getElem?_eq_none (by omega), List.getLast?_eq_getElem?, List.getElem?_eq_getElem (by omega)]
      rw [hn]
      rw [hq] at hob
      have hsub : ((ts.length : Nat) : Int) - 1 = ((ts.length - 1 : Nat) : Int) := by omega
      unfold tokV
      repeat' (first | (simp (disch := first | omega | (decide +kernel)) only [↓RD, RU, ↓putF_get, ↓putF_none, ↓evF_t, ↓evF_c, new_get, set_get, getD_zero, pop, lop, aop, wop, resL, resV, tupleV, akV, isVal, isCell, Value.cells, ρ0, ρ1, ρ4, ↓reduceIte, Nat.reduceEqDiff, Nat.reduceAdd, Int.reduceOfNat, reduceCtorEq, ρ5, ρ6, ρ7, ρ8, ρ15, ρ17, ρ18, ρ19, ρ20, ρ21, ρ22, ρ23, Kd.isRo, ρ25, ρ26, bldV, Nat.reduceLeDiff, ρ28, ρ29, hob, g1, g5, hsub]) | (with_reducible first | refine condK_dec (fun _ => ?_) fun _ => ?_ | refine grd_dec (fun _ => ?_) fun _ => ?_ | refine egrd_dec (fun _ => ?_) fun _ => ?_))
      all_goals exact new_set
    · have hts : ts = [] := List.length_eq_zero_iff.1 (by omega)
      have hn : nowT ts i = ⟨0, 0, []⟩ := by subst hts; rfl
      rw [hn]
      unfold tokV
      repeat' (first | (simp (disch := first | omega | (decide +kernel)) only [↓RD, RU, ↓putF_get, ↓putF_none, ↓evF_t, ↓evF_c, new_get, set_get, getD_zero, pop, lop, aop, wop, resL, resV, tupleV, akV, isVal, isCell, Value.cells, ρ0, ρ1, ρ4, ↓reduceIte, Nat.reduceEqDiff, Nat.reduceAdd, Int.reduceOfNat, reduceCtorEq, ρ5, ρ6, ρ7, ρ8, ρ15, ρ17, ρ18, ρ19, ρ20, ρ21, ρ22, ρ23, Kd.isRo, ρ25, ρ26, bldV, Nat.reduceLeDiff, ρ28, hob]) | (with_reducible first | refine condK_dec (fun _ => ?_) fun _ => ?_ | refine grd_dec (fun _ => ?_) fun _ => ?_ | refine egrd_dec (fun _ => ?_) fun _ => ?_))
      all_goals exact new_set
theorem dnow_iff {K : CH} {p : Nat} {sl : Sl} {ts : List PT} {i : Nat} {b : Bool} (h : RdD K p sl ts i b) {Q : Value → CH → Prop} : WpF (tblG Tryz.prog LG GG) 19 [.pointer (some ⟨p, 0, none⟩)] K Q ↔ Q (.agg (tokV (nowT ts i)).toArray) (K.new (tkC (nowT ts i))) := wpF_iff (dnow_wp h)
theorem disWord_wp (K : CH) {c : UInt8} {s : List UInt8} : WpF (tblG Tryz.prog LG GG) 115 [.string ⟨⟨c :: s⟩⟩] K fun v K' => v = .bool (isWd (c :: s)) ∧ K' = K := by
  have hg : ((c :: s)[0]?).map (fun b => Value.int .u8 (b.toNat : Int)) = some (.int .u8 (c.toNat : Int)) := rfl
  have hc := c.toNat_lt
  have e : isWd (c :: s) = decide ((65 ≤ c.toNat ∧ c.toNat ≤ 90) ∨ (97 ≤ c.toNat ∧ c.toNat ≤ 122)) := rfl
  rw [e]
  obtain ⟨n, hn⟩ : ∃ n, c.toNat = n := ⟨_, rfl⟩
  rw [hn] at hg hc ⊢
  refine wpF_rG (by rfl) (by kernel_rfl) ?_; (conv in (rF _ _).body => reduce); (conv in (rF _ _).res => reduce)
  by_cases h1 : 65 ≤ n
  · by_cases h2 : n ≤ 90
    · rw [decide_eq_true (by omega)]
      repeat' (first | (simp (disch := first | omega | (decide +kernel)) only [↓RD, RU, ↓putF_get, ↓evF_t, ↓evF_c, getD_zero, pop, resL, resV, tupleV, ρ4, ↓reduceIte, Nat.reduceEqDiff, Int.reduceOfNat, reduceCtorEq, ρ5, Int.reduceToNat, pstr_get]) | (with_reducible first | refine condK_dec (fun _ => ?_) fun _ => ?_ | refine grd_dec (fun _ => ?_) fun _ => ?_ | refine egrd_dec (fun _ => ?_) fun _ => ?_))
    · by_cases h3 : 97 ≤ n
      · by_cases h4 : n ≤ 122
        · rw [decide_eq_true (by omega)]
          repeat' (first | (simp (disch := first | omega | (decide +kernel)) only [↓RD, RU, ↓putF_get, ↓evF_t, ↓evF_c, getD_zero, pop, resL, resV, tupleV, ρ4, ↓reduceIte, Nat.reduceEqDiff, Int.reduceOfNat, reduceCtorEq, ρ5, Int.reduceToNat, pstr_get]) | (with_reducible first | refine condK_dec (fun _ => ?_) fun _ => ?_ | refine grd_dec (fun _ => ?_) fun _ => ?_ | refine egrd_dec (fun _ => ?_) fun _ => ?_))
        · rw [decide_eq_false (by omega)]
          repeat' (first | (simp (disch := first | omega | (decide +kernel)) only [↓RD, RU, ↓putF_get, ↓evF_t, ↓evF_c, getD_zero, pop, resL, resV, tupleV, ρ4, ↓reduceIte, Nat.reduceEqDiff, Int.reduceOfNat, reduceCtorEq, ρ5, Int.reduceToNat, pstr_get]) | (with_reducible first | refine condK_dec (fun _ => ?_) fun _ => ?_ | refine grd_dec (fun _ => ?_) fun _ => ?_ | refine egrd_dec (fun _ => ?_) fun _ => ?_))
      · rw [decide_eq_false (by omega)]
        repeat' (first | (simp (disch := first | omega | (decide +kernel)) only [↓RD, RU, ↓putF_get, ↓evF_t, ↓evF_c, getD_zero, pop, resL, resV, tupleV, ρ4, ↓reduceIte, Nat.reduceEqDiff, Int.reduceOfNat, reduceCtorEq, ρ5, Int.reduceToNat, pstr_get]) | (with_reducible first | refine condK_dec (fun _ => ?_) fun _ => ?_ | refine grd_dec (fun _ => ?_) fun _ => ?_ | refine egrd_dec (fun _ => ?_) fun _ => ?_))
  · rw [decide_eq_false (by omega)]
    have h3 : ¬ 97 ≤ n := by omega
    repeat' (first | (simp (disch := first | omega | (decide +kernel)) only [↓RD, RU, ↓putF_get, ↓evF_t, ↓evF_c, getD_zero, pop, resL, resV, tupleV, ρ4, ↓reduceIte, Nat.reduceEqDiff, Int.reduceOfNat, reduceCtorEq, ρ5, Int.reduceToNat, pstr_get]) | (with_reducible first | refine condK_dec (fun _ => ?_) fun _ => ?_ | refine grd_dec (fun _ => ?_) fun _ => ?_ | refine egrd_dec (fun _ => ?_) fun _ => ?_))
theorem disWord_iff {K : CH} {c : UInt8} {s : List UInt8} {Q : Value → CH → Prop} : WpF (tblG Tryz.prog LG GG) 115 [.string ⟨⟨c :: s⟩⟩] K Q ↔ Q (.bool (isWd (c :: s))) K := wpF_iff (disWord_wp K)
theorem dis_wp {K : CH} {p : Nat} {sl : Sl} {ts : List PT} {i : Nat} (h : RdD K p sl ts i false) {c1 : UInt8} {s : List UInt8} : WpF (tblG Tryz.prog LG GG) 75 [.pointer (some ⟨p, 0, none⟩), .string ⟨⟨c1 :: s⟩⟩] K fun v K' => v = .bool (isT ts i (c1 :: s)) ∧ K' = (K.new (tkC (nowT ts i))).new (tkC (nowT ts i)) := by
  have hob := h.ob
  have hpl := h.pl
  have hnow := fun Q => @dnow_iff K p sl ts i _ h Q
  obtain ⟨t, ht⟩ : ∃ t, nowT ts i = t := ⟨_, rfl⟩
  unfold rdC at hob
  rw [ht] at hnow
  unfold isT
  rw [ht]
  obtain ⟨kd, ln, tx⟩ := t
  obtain ⟨G, hG⟩ : ∃ G, K.new (tkC ⟨kd, ln, tx⟩) = G := ⟨_, rfl⟩
  rw [hG] at hnow ⊢
  unfold tokV at hnow
  have hobG : G.ob p = .cells [.slice sl.q sl.n sl.c, .int .i64 (i : Nat), .bool false] 47 .ex := by rw [← hG, new_ne (by omega)]; exact hob
  have hpG : p ≠ G.nx := by rw [← hG, new_nx]; omega
  have fin : G.new (.cells [.int .i64 kd, .int .i64 ln, .string ⟨⟨tx⟩⟩] 50 .ex) = G.new (tkC ⟨kd, ln, tx⟩) := rfl
  refine wpF_rG (by rfl) (by kernel_rfl) ?_; (conv in (rF _ _).body => reduce); (conv in (rF _ _).res => reduce)
  by_cases k8 : kd = 8
  · subst k8
    by_cases e : tx = c1 :: s
    · have hd := decide_eq_true e
      have hw := fun K Q => @disWord_iff K c1 s Q
      cases hW : isWd (c1 :: s) with
      | true =>
        rw [hW] at hw
        rw [decide_eq_true ⟨.inl rfl, e, rfl⟩]
        repeat' (first | (simp (disch := first | omega | (decide +kernel)) only [↓RD, RU, accW_t, accW_f, isW, ↓putF_get, ↓putF_none, ↓evF_t, ↓evF_c, new_get, getD_zero, getD_succ, u_not, pop, lop, aop, wop, resL, resV, tupleV, akV, isVal, isCell, Value.cells, ρ0, ρ1, ρ3, ↓reduceIte, Nat.reduceEqDiff, Nat.reduceAdd, Int.reduceOfNat, reduceCtorEq, ρ5, ρ6, ρ7, ρ8, ρ17, ρ20, ρ21, ρ22, ρ23, Kd.isRo, ρ25, ρ26, ρ28, hnow, hobG, hpG, new_set, pstr_eq, hw]) | (with_reducible first | refine condK_dec (fun _ => ?_) fun _ => ?_ | refine grd_dec (fun _ => ?_) fun _ => ?_ | refine egrd_dec (fun _ => ?_) fun _ => ?_))
        all_goals exact fin
      | false =>
        rw [hW] at hw
        rw [decide_eq_false (by simp)]
        repeat' (first | (simp (disch := first | omega | (decide +kernel)) only [↓RD, RU, accW_t, accW_f, isW, ↓putF_get, ↓putF_none, ↓evF_t, ↓evF_c, new_get, getD_zero, getD_succ, u_not, pop, lop, aop, wop, resL, resV, tupleV, akV, isVal, isCell, Value.cells, ρ0, ρ1, ρ3, ↓reduceIte, Nat.reduceEqDiff, Nat.reduceAdd, Int.reduceOfNat, reduceCtorEq, ρ5, ρ6, ρ7, ρ8, ρ17, ρ20, ρ21, ρ22, ρ23, Kd.isRo, ρ25, ρ26, ρ28, hnow, hobG, hpG, new_set, pstr_eq, hw]) | (with_reducible first | refine condK_dec (fun _ => ?_) fun _ => ?_ | refine grd_dec (fun _ => ?_) fun _ => ?_ | refine egrd_dec (fun _ => ?_) fun _ => ?_))
        all_goals exact fin
    · have hd := decide_eq_false e
      rw [decide_eq_false (fun g => e g.2.1)]
      repeat' (first | (simp (disch := first | omega | (decide +kernel)) only [↓RD, RU, accW_t, accW_f, isW, ↓putF_get, ↓putF_none, ↓evF_t, ↓evF_c, new_get, getD_zero, getD_succ, u_not, pop, lop, aop, wop, resL, resV, tupleV, akV, isVal, isCell, Value.cells, ρ0, ρ1, ρ3, ↓reduceIte, Nat.reduceEqDiff, Nat.reduceAdd, Int.reduceOfNat, reduceCtorEq, ρ5, ρ6, ρ7, ρ8, ρ17, ρ20, ρ21, ρ22, ρ23, Kd.isRo, ρ25, ρ26, ρ28, hnow, hobG, hpG, new_set, pstr_eq]) | (with_reducible first | refine condK_dec (fun _ => ?_) fun _ => ?_ | refine grd_dec (fun _ => ?_) fun _ => ?_ | refine egrd_dec (fun _ => ?_) fun _ => ?_))
      all_goals exact fin
  · by_cases k9 : kd = 9
    · subst k9
      by_cases e : tx = c1 :: s
      · have hd := decide_eq_true e
        have hw := fun K Q => @disWord_iff K c1 s Q
        cases hW : isWd (c1 :: s) with
        | true =>
          rw [hW] at hw
          rw [decide_eq_false (by simp)]
          repeat' (first | (simp (disch := first | omega | (decide +kernel)) only [↓RD, RU, accW_t, accW_f, isW, ↓putF_get, ↓putF_none, ↓evF_t, ↓evF_c, new_get, getD_zero, getD_succ, u_not, pop, lop, aop, wop, resL, resV, tupleV, akV, isVal, isCell, Value.cells, ρ0, ρ1, ρ2, ρ3, ↓reduceIte, Nat.reduceEqDiff, Nat.reduceAdd, Int.reduceOfNat, reduceCtorEq, ρ5, ρ6, ρ7, ρ8, ρ17, ρ20, ρ21, ρ22, ρ23, Kd.isRo, ρ25, ρ26, ρ28, hnow, hobG, hpG, new_set, pstr_eq, hw]) | (with_reducible first | refine condK_dec (fun _ => ?_) fun _ => ?_ | refine grd_dec (fun _ => ?_) fun _ => ?_ | refine egrd_dec (fun _ => ?_) fun _ => ?_))
          all_goals exact fin
        | false =>
          rw [hW] at hw
          rw [decide_eq_true ⟨.inr rfl, e, by simp⟩]
          repeat' (first | (simp (disch := first | omega | (decide +kernel)) only [↓RD, RU, accW_t, accW_f, isW, ↓putF_get, ↓putF_none, ↓evF_t, ↓evF_c, new_get, getD_zero, getD_succ, u_not, pop, lop, aop, wop, resL, resV, tupleV, akV, isVal, isCell, Value.cells, ρ0, ρ1, ρ3, ↓reduceIte, Nat.reduceEqDiff, Nat.reduceAdd, Int.reduceOfNat, reduceCtorEq, ρ5, ρ6, ρ7, ρ8, ρ17, ρ20, ρ21, ρ22, ρ23, Kd.isRo, ρ25, ρ26, ρ28, hnow, hobG, hpG, new_set, pstr_eq, hw]) | (with_reducible first | refine condK_dec (fun _ => ?_) fun _ => ?_ | refine grd_dec (fun _ => ?_) fun _ => ?_ | refine egrd_dec (fun _ => ?_) fun _ => ?_))
          all_goals exact fin
      · have hd := decide_eq_false e
        rw [decide_eq_false (fun g => e g.2.1)]
        repeat' (first | (simp (disch := first | omega | (decide +kernel)) only [↓RD, RU, accW_t, accW_f, isW, ↓putF_get, ↓putF_none, ↓evF_t, ↓evF_c, new_get, getD_zero, getD_succ, u_not, pop, lop, aop, wop, resL, resV, tupleV, akV, isVal, isCell, Value.cells, ρ0, ρ1, ρ3, ↓reduceIte, Nat.reduceEqDiff, Nat.reduceAdd, Int.reduceOfNat, reduceCtorEq, ρ5, ρ6, ρ7, ρ8, ρ17, ρ20, ρ21, ρ22, ρ23, Kd.isRo, ρ25, ρ26, ρ28, hnow, hobG, hpG, new_set, pstr_eq]) | (with_reducible first | refine condK_dec (fun _ => ?_) fun _ => ?_ | refine grd_dec (fun _ => ?_) fun _ => ?_ | refine egrd_dec (fun _ => ?_) fun _ => ?_))
        all_goals exact fin
    · rw [decide_eq_false (fun g => g.1.elim k8 k9)]
      repeat' (first | (simp (disch := first | omega | (decide +kernel)) only [↓RD, RU, accW_t, accW_f, isW, ↓putF_get, ↓putF_none, ↓evF_t, ↓evF_c, new_get, getD_zero, u_not, pop, lop, aop, wop, resL, resV, tupleV, akV, isVal, isCell, Value.cells, ρ0, ρ1, ρ3, ↓reduceIte, Nat.reduceEqDiff, Nat.reduceAdd, Int.reduceOfNat, reduceCtorEq, ρ5, ρ6, ρ7, ρ8, ρ17, ρ20, ρ21, ρ22, ρ23, Kd.isRo, ρ25, ρ26, ρ28, hnow, hobG, hpG, new_set, k8, k9]) | (with_reducible first | refine condK_dec (fun _ => ?_) fun _ => ?_ | refine grd_dec (fun _ => ?_) fun _ => ?_ | refine egrd_dec (fun _ => ?_) fun _ => ?_))
      all_goals exact fin
theorem dis_bad {K : CH} {p : Nat} {sl : Sl} {ts : List PT} {i : Nat} (h : RdD K p sl ts i true) {s : ByteArray} : WpF (tblG Tryz.prog LG GG) 75 [.pointer (some ⟨p, 0, none⟩), .string s] K fun v K' => v = .bool false ∧ K' = (K.new (tkC (nowT ts i))).new (tkC (nowT ts i)) := by
  have hob := h.ob
  have hpl := h.pl
  have hnow := fun Q => @dnow_iff K p sl ts i _ h Q
  obtain ⟨t, ht⟩ : ∃ t, nowT ts i = t := ⟨_, rfl⟩
  unfold rdC at hob
  rw [ht] at hnow ⊢
  obtain ⟨kd, ln, tx⟩ := t
  obtain ⟨G, hG⟩ : ∃ G, K.new (tkC ⟨kd, ln, tx⟩) = G := ⟨_, rfl⟩
  rw [hG] at hnow ⊢
  unfold tokV at hnow
  have hobG : G.ob p = .cells [.slice sl.q sl.n sl.c, .int .i64 (i : Nat), .bool true] 47 .ex := by rw [← hG, new_ne (by omega)]; exact hob
  have hpG : p ≠ G.nx := by rw [← hG, new_nx]; omega
  refine wpF_rG (by rfl) (by kernel_rfl) ?_; (conv in (rF _ _).body => reduce); (conv in (rF _ _).res => reduce)
  repeat' (first | (simp (disch := first | omega | (decide +kernel)) only [↓RD, RU, accW_t, accW_f, isW, ↓putF_get, ↓putF_none, ↓evF_t, ↓evF_c, new_get, getD_zero, u_not, pop, lop, aop, wop, resL, resV, tupleV, akV, isVal, isCell, Value.cells, ρ0, ρ1, ρ2, ↓reduceIte, Nat.reduceEqDiff, Nat.reduceAdd, Int.reduceOfNat, reduceCtorEq, ρ5, ρ6, ρ7, ρ8, ρ17, ρ20, ρ21, ρ22, ρ23, Kd.isRo, ρ25, ρ26, hnow, hobG, hpG, new_set]) | (with_reducible first | refine condK_dec (fun _ => ?_) fun _ => ?_ | refine grd_dec (fun _ => ?_) fun _ => ?_ | refine egrd_dec (fun _ => ?_) fun _ => ?_))
  all_goals rfl
theorem dkind_wp {K : CH} {p : Nat} {sl : Sl} {ts : List PT} {i : Nat} (h : RdD K p sl ts i false) {k : Int} : WpF (tblG Tryz.prog LG GG) 77 [.pointer (some ⟨p, 0, none⟩), .int .i64 k] K fun v K' => v = .bool (decide ((nowT ts i).kind = k)) ∧ K' = K.new (tkC (nowT ts i)) := by
  have hob := h.ob
  have hpl := h.pl
  have hnow := fun Q => @dnow_iff K p sl ts i _ h Q
  obtain ⟨t, ht⟩ : ∃ t, nowT ts i = t := ⟨_, rfl⟩
  unfold rdC at hob
  rw [ht] at hnow ⊢
  obtain ⟨kd, ln, tx⟩ := t
  unfold tokV at hnow
  refine wpF_rG (by rfl) (by kernel_rfl) ?_; (conv in (rF _ _).body => reduce); (conv in (rF _ _).res => reduce)
  by_cases hk : kd = k
  · rw [decide_eq_true hk]
    subst hk
    repeat' (first | (simp (disch := first | omega | (decide +kernel)) only [↓RD, RU, ↓putF_get, ↓evF_t, ↓evF_c, getD_zero, getD_succ, u_not, pop, lop, resL, resV, tupleV, ρ0, ρ1, ρ3, ↓reduceIte, Nat.reduceEqDiff, reduceCtorEq, ρ5, ρ6, partV, hob, hnow]) | (with_reducible first | refine condK_dec (fun _ => ?_) fun _ => ?_ | refine grd_dec (fun _ => ?_) fun _ => ?_ | refine egrd_dec (fun _ => ?_) fun _ => ?_))
    all_goals rfl
  · rw [decide_eq_false hk]
    repeat' (first | (simp (disch := first | omega | (decide +kernel)) only [↓RD, RU, ↓putF_get, ↓evF_t, ↓evF_c, getD_zero, getD_succ, u_not, pop, lop, resL, resV, tupleV, ρ0, ρ1, ρ3, ↓reduceIte, Nat.reduceEqDiff, reduceCtorEq, ρ5, ρ6, partV, hob, hnow, hk]) | (with_reducible first | refine condK_dec (fun _ => ?_) fun _ => ?_ | refine grd_dec (fun _ => ?_) fun _ => ?_ | refine egrd_dec (fun _ => ?_) fun _ => ?_))
    all_goals rfl
theorem dkind_bad {K : CH} {p : Nat} {sl : Sl} {ts : List PT} {i : Nat} (h : RdD K p sl ts i true) {k : Int} : WpF (tblG Tryz.prog LG GG) 77 [.pointer (some ⟨p, 0, none⟩), .int .i64 k] K fun v K' => v = .bool false ∧ K' = K := by
  have hob := h.ob
  have hpl := h.pl
  unfold rdC at hob
  refine wpF_rG (by rfl) (by kernel_rfl) ?_; (conv in (rF _ _).body => reduce); (conv in (rF _ _).res => reduce)
  repeat' (first | (simp (disch := first | omega | (decide +kernel)) only [↓RD, RU, ↓putF_get, ↓evF_t, ↓evF_c, getD_zero, u_not, pop, lop, resL, resV, tupleV, ρ2, ↓reduceIte, Nat.reduceEqDiff, reduceCtorEq, ρ5, ρ6, hob]) | (with_reducible first | refine condK_dec (fun _ => ?_) fun _ => ?_ | refine grd_dec (fun _ => ?_) fun _ => ?_ | refine egrd_dec (fun _ => ?_) fun _ => ?_))
theorem dnode_wp {K : CH} {k l : Int} {a : Option Addr} {n c : Nat} : WpF (tblG Tryz.prog LG GG) 18 [.int .i64 k, .int .i64 l, .slice a n c] K fun v K' => v = .agg #[.int .i64 k, .int .i64 l, .string ⟨⟨[]⟩⟩, .int .i64 0, .slice a n c] ∧ ∃ o, K' = K.new o := by
  refine wpF_rG (by rfl) (by kernel_rfl) ?_; (conv in (rF _ _).body => reduce); (conv in (rF _ _).res => reduce)
  repeat' (first | (simp (disch := first | omega | (decide +kernel)) only [↓RD, RU, ↓putF_get, ↓putF_none, ↓evF_t, new_get, getD_zero, getD_succ, pop, lop, aop, wop, resL, resV, tupleV, akV, isVal, isCell, Value.cells, ρ0, ρ1, ρ4, ↓reduceIte, Nat.reduceEqDiff, Nat.reduceAdd, Int.reduceOfNat, reduceCtorEq, ρ7, ρ8, ρ15, ρ17, ρ18, ρ19, ρ20, ρ21, ρ22, ρ23, Kd.isRo, ρ25, ρ26, bldV, Nat.reduceLeDiff, new_set]) | (with_reducible first | refine condK_dec (fun _ => ?_) fun _ => ?_ | refine grd_dec (fun _ => ?_) fun _ => ?_ | refine egrd_dec (fun _ => ?_) fun _ => ?_))
  all_goals exact ⟨_, rfl⟩
end Can
end Go.Proofs.YtnankhlanilbbaaGreat
end
section
namespace Go.Proofs.YtnankhlanilbbaaGreat
namespace Can
open Go Go.RowKit
set_option linter.unusedSimpArgs false
set_option linter.unusedVariables false
set_option maxRecDepth 4000
inductive NdG : List SV → Prop
  | mk {k l : Int} {x : ByteArray} {o : Int} {gs : List (List SV)} (h : ∀ g ∈ gs, NdG g) : NdG [.sc (.int .i64 k), .sc (.int .i64 l), .sc (.string x), .sc (.int .i64 o), .row 5 gs]
mutual
theorem ndG_nd : ∀ t : Nd, NdG (ndS t)
  | .mk _ _ _ _ ks => .mk (ndG_nds ks)
theorem ndG_nds : ∀ ks : List Nd, ∀ g ∈ ndsS ks, NdG g
  | [], g, h => by cases h
  | n :: ks, g, h => by
    rcases List.mem_cons.1 h with rfl | h
    · exact ndG_nd n
    · exact ndG_nds ks g h
end
abbrev gA (k l : Int) (x : ByteArray) (o : Int) (gs : List (List SV)) : AV := .r (.agg [cS (.int .i64 k), cS (.int .i64 l), cS (.string x), cS (.int .i64 o), .s (.row 5 gs)])
def rdSb (sl : Sl) (i : Nat) (b : Bool) : List SV := [.sc (.slice sl.q sl.n sl.c), .sc (.int .i64 (i : Nat)), .sc (.bool b)]
abbrev rdD (sl : Sl) (i : Nat) (b : Bool) : Self := some (47, rdSb sl i b)
theorem dself_inv {K : CH} {E : TE} {sp : Option Nat} {sl : Sl} {i : Nat} {b : Bool} (h : SelfR K E sp (rdD sl i b)) : ∃ p, sp = some p ∧ p < K.nx ∧ K.ob p = rdC sl i b := by
  obtain ⟨p, os, h1, h2, h3, h4⟩ := h
  refine ⟨p, h1, h2, ?_⟩
  rw [h3]
  cases h4 with
  | cons a h4 => cases h4 with
    | cons b h4 => cases h4 with
      | cons c h4 => cases h4; cases a; cases b; cases c; rfl
theorem dself_mk {K : CH} {E : TE} {p : Nat} {sl : Sl} {i : Nat} {b : Bool} (h : p < K.nx) (ho : K.ob p = rdC sl i b) : SelfR K E (some p) (rdD sl i b) := ⟨p, _, rfl, h, ho, .cons (.sc rfl) (.cons (.sc rfl) (.cons (.sc rfl) .nil))⟩
theorem tc_rdd {Z : TP} {X : Pan} {sl : Sl} {ts : List PT} (hZ : TkZ Z sl ts) {f : FuncId} {L : List Value} {i j : Nat} {b b' : Bool} {a : AV} {V : Value} {Q : AV → List SV → Prop} {R : Value → Prop} (hi : i ≤ ts.length) (hV : ∀ K E, AVR K E a V) (hc : a.clean)
    (h : ∀ K p, RdD K p sl ts i b → WpF (tblG Tryz.prog LG GG) f (.pointer (some ⟨p, 0, none⟩) :: L) K fun v K' => v = V ∧ K.nx ≤ K'.nx ∧ (∀ x, x < K.nx → x ≠ p → K'.ob x = K.ob x) ∧ K'.ob p = rdC sl j b') (hQ : Q a (rdSb sl j b')) : TC Z (tblG Tryz.prog LG GG) X f (.ptr 0 0 :: L.map rS) (rdD sl i b) Q R := by
  intro K sp hid vs h1 h2 h3 h4
  obtain ⟨p, rfl, hp, ho⟩ := dself_inv h4
  have hvs : vs = .pointer (some ⟨p, 0, none⟩) :: L := by
    cases h3 with
    | cons g1 g2 =>
      obtain ⟨l, q1, q2⟩ := g1.ptr_inv
      have q1 : some p = some l := q1
      cases q1
      rw [q2, r2_rS g2]
  subst hvs
  left
  refine (h K p ⟨ho, hp, hi, hZ.n, hZ.tk K fun x hx => ⟨(h2 x hx).1, (h2 x hx).2.2⟩⟩).mono fun v K' ⟨e1, e2, e3, e4⟩ => ?_
  subst e1
  exact ⟨e2, fun x hx hs => e3 x hx fun e => hs (by rw [e]), a, rdSb sl j b', hV _ _, hc, dself_mk (Nat.lt_of_lt_of_le hp e2) e4, hQ⟩
structure DCtx (Z : TP) (ts : List PT) (sl : Sl) : Prop where
  tkz : TkZ Z sl ts
  len : ts.length ≤ 4398046510976
def DTd : TD := ⟨[18]⟩
theorem dtd_ok : TDOk (tblG Tryz.prog LG GG) DTd := ⟨fun f hf K k l a n c => by
  have : f = 18 := by
    simp only [DTd, List.elem_cons, List.elem_nil] at hf
    split at hf
    · rename_i h; exact eq_of_beq h
    · cases hf
  subst this
  exact dnode_wp⟩
section
variable {Z : TP} {X : Pan} {ts : List PT} {sl : Sl} {R : Value → Prop} {Q : AV → List SV → Prop} {i : Nat} {b : Bool}
theorem dnow_tc (C : DCtx Z ts sl) (hi : i ≤ ts.length) (hQ : Q (tokA (nowT ts i)) (rdSb sl i b)) : TC Z (tblG Tryz.prog LG GG) X 19 [.ptr 0 0] (rdD sl i b) Q R :=
  tc_rdd C.tkz (L := []) hi (fun _ _ => tokA_rel) trivial (fun K p h => (dnow_wp h).mono fun v K' ⟨e1, e2⟩ => by
    subst e2
    exact ⟨e1, Nat.le_succ _, fun b hb _ => new_ne (by omega), (new_ne (by have := h.pl; omega)).trans h.ob⟩) hQ
theorem dis_tc (C : DCtx Z ts sl) {s : List UInt8} (hs : s ≠ []) (hi : i ≤ ts.length) (hQ : Q (rS (.bool (isT ts i s))) (rdSb sl i false)) : TC Z (tblG Tryz.prog LG GG) X 75 [.ptr 0 0, rS (.string ⟨⟨s⟩⟩)] (rdD sl i false) Q R := by
  obtain ⟨c1, s, rfl⟩ : ∃ c1 s', s = c1 :: s' := by cases s; exact absurd rfl hs; exact ⟨_, _, rfl⟩
  exact tc_rdd C.tkz (L := [.string ⟨⟨c1 :: s⟩⟩]) hi (fun _ _ => rS_rel rfl) trivial (fun K p h => (dis_wp h).mono fun v K' ⟨e1, e2⟩ => by
    subst e2
    have := h.pl
    refine ⟨e1, by simp only [new_nx]; omega, fun b hb _ => ?_, ?_⟩
    · rw [new_ne (by simp only [new_nx]; omega), new_ne (by omega)]
    · rw [new_ne (by simp only [new_nx]; omega), new_ne (by omega)]; exact h.ob) hQ
theorem dis_tb (C : DCtx Z ts sl) {s : ByteArray} (hi : i ≤ ts.length) (hQ : Q (rS (.bool false)) (rdSb sl i true)) : TC Z (tblG Tryz.prog LG GG) X 75 [.ptr 0 0, rS (.string s)] (rdD sl i true) Q R :=
  tc_rdd C.tkz (L := [.string s]) hi (fun _ _ => rS_rel rfl) trivial (fun K p h => (dis_bad h).mono fun v K' ⟨e1, e2⟩ => by
    subst e2
    have := h.pl
    refine ⟨e1, by simp only [new_nx]; omega, fun b hb _ => ?_, ?_⟩
    · rw [new_ne (by simp only [new_nx]; omega), new_ne (by omega)]
    · rw [new_ne (by simp only [new_nx]; omega), new_ne (by omega)]; exact h.ob) hQ
theorem dkind_tc (C : DCtx Z ts sl) {k : Int} (hi : i ≤ ts.length) (hQ : Q (rS (.bool (decide ((nowT ts i).kind = k)))) (rdSb sl i false)) : TC Z (tblG Tryz.prog LG GG) X 77 [.ptr 0 0, rS (.int .i64 k)] (rdD sl i false) Q R :=
  tc_rdd C.tkz (L := [.int .i64 k]) hi (fun _ _ => rS_rel rfl) trivial (fun K p h => (dkind_wp h).mono fun v K' ⟨e1, e2⟩ => by
    subst e2
    exact ⟨e1, Nat.le_succ _, fun b hb _ => new_ne (by omega), (new_ne (by have := h.pl; omega)).trans h.ob⟩) hQ
theorem dkind_tb (C : DCtx Z ts sl) {k : Int} (hi : i ≤ ts.length) (hQ : Q (rS (.bool false)) (rdSb sl i true)) : TC Z (tblG Tryz.prog LG GG) X 77 [.ptr 0 0, rS (.int .i64 k)] (rdD sl i true) Q R :=
  tc_rdd C.tkz (L := [.int .i64 k]) hi (fun _ _ => rS_rel rfl) trivial (fun K p h => (dkind_bad h).mono fun v K' ⟨e1, e2⟩ => by
    subst e2
    exact ⟨e1, Nat.le_refl _, fun b _ _ => rfl, h.ob⟩) hQ
end
end Can
end Go.Proofs.YtnankhlanilbbaaGreat
end
section
namespace Go.Proofs.YtnankhlanilbbaaGreat
namespace Can
open Go Go.RowKit
set_option linter.unusedSimpArgs false
set_option linter.unusedVariables false
set_option maxRecDepth 4000
attribute [local irreducible] TC isT nowT begT
section
variable {Z : TP} {X : Pan} {ts : List PT} {sl : Sl} {R : Value → Prop} {Q : AV → List SV → Prop} {E : Nat → Prop} {P : List Nd → Nat → Prop} {i : Nat}
theorem drd_inc (C : DCtx Z ts sl) (h : i < ts.length) {a : AV} (hQ : Q a (rdSb sl (i + 1) false)) : Q a [SV.sc (.slice sl.q sl.n sl.c), SV.sc (.int .i64 (IntKind.wrap .i64 ((i : Int) + 1))), SV.sc (.bool false)] := by
  rw [wr_inc h C.len]; exact hQ
theorem dis_tc2 (C : DCtx Z ts sl) {s : List UInt8} (hs : s ≠ []) (hi : i ≤ ts.length) (h1 : isT ts i s = true → Q (rS (.bool true)) (rdSb sl i false)) (h2 : isT ts i s = false → Q (rS (.bool false)) (rdSb sl i false)) : TC Z (tblG Tryz.prog LG GG) X 75 [.ptr 0 0, rS (.string ⟨⟨s⟩⟩)] (rdD sl i false) Q R := by
  refine dis_tc C hs hi ?_
  cases hb : isT ts i s with
  | true => exact h1 hb
  | false => exact h2 hb
theorem dhas_tc (C : DCtx Z ts sl) {s : List UInt8} (hs : s ≠ []) (hi : i ≤ ts.length) (h1 : isT ts i s = true → i < ts.length → Q (rS (.bool true)) (rdSb sl (i + 1) false)) (h2 : isT ts i s = false → Q (rS (.bool false)) (rdSb sl i false)) : TC Z (tblG Tryz.prog LG GG) X 36 [.ptr 0 0, rS (.string ⟨⟨s⟩⟩)] (rdD sl i false) Q R := by
  refine tc_rG dtd_ok (by rfl) (by kernel_rfl) ?_
  conv in (rF _ _).body => reduce
  conv in (rF _ _).res => reduce
  conv => whnf
  refine dis_tc C hs hi ?_
  cases hb : isT ts i s with
  | false =>
    conv => whnf
    exact h2 hb
  | true =>
    conv => whnf
    exact drd_inc C (isT_lt' hb) (h1 hb (isT_lt' hb))
theorem dwant_tc (C : DCtx Z ts sl) {s : List UInt8} (hs : s ≠ []) (hi : i ≤ ts.length) (h1 : isT ts i s = true → i < ts.length → Q (.tup []) (rdSb sl (i + 1) false)) (h2 : isT ts i s = false → Q (.tup []) (rdSb sl i true)) : TC Z (tblG Tryz.prog LG GG) X 39 [.ptr 0 0, rS (.string ⟨⟨s⟩⟩)] (rdD sl i false) Q R := by
  refine tc_rG dtd_ok (by rfl) (by kernel_rfl) ?_
  conv in (rF _ _).body => reduce
  conv in (rF _ _).res => reduce
  conv => whnf
  refine dhas_tc C hs hi (fun hb hl => ?_) (fun hb => ?_)
  · conv => whnf
    exact h1 hb hl
  · conv => whnf
    exact h2 hb
theorem dwantKind_tc (C : DCtx Z ts sl) {k : Int} (h0 : k ≠ 0) (hi : i ≤ ts.length) (h1 : (nowT ts i).kind = k → i < ts.length → Q (rS (.string ⟨⟨(nowT ts i).text⟩⟩)) (rdSb sl (i + 1) false)) (h2 : (nowT ts i).kind ≠ k → Q (rS (.string ⟨⟨[]⟩⟩)) (rdSb sl i true)) : TC Z (tblG Tryz.prog LG GG) X 43 [.ptr 0 0, rS (.int .i64 k)] (rdD sl i false) Q R := by
  refine tc_rG dtd_ok (by rfl) (by kernel_rfl) ?_
  conv in (rF _ _).body => reduce
  conv in (rF _ _).res => reduce
  conv => whnf
  refine dnow_tc C hi ?_
  conv => whnf
  refine ifT_c (fun hb => ?_) (fun hb => ?_)
  · conv => whnf
    refine h2 ?_
    simpa using hb
  · have hk : (nowT ts i).kind = k := by simpa using hb
    have hl : i < ts.length := kd_lt (by rw [hk]; exact h0)
    conv => whnf
    exact drd_inc C hl (h1 hk hl)
theorem dbegins_tc (C : DCtx Z ts sl) (hi : i ≤ ts.length) (hQ : Q (rS (.bool (begT ts i))) (rdSb sl i false)) : TC Z (tblG Tryz.prog LG GG) X 79 [.ptr 0 0] (rdD sl i false) Q R := by
  refine tc_rG dtd_ok (by rfl) (by kernel_rfl) ?_
  conv in (rF _ _).body => reduce
  conv in (rF _ _).res => reduce
  conv => whnf
  refine dnow_tc C hi ?_
  obtain ⟨t, ht⟩ : ∃ t, nowT ts i = t := ⟨_, rfl⟩
  have hw := @beg_w ts i
  have hs := @beg_s ts i
  have hk := @beg_k ts i
  have hn := @beg_n ts i
  rw [ht] at hw hs hk hn ⊢
  obtain ⟨kd, ln, tx⟩ := t
  by_cases k4 : kd = 4
  · subst k4
    rw [hk (show (4 : Int) ≤ 4 ∧ (4 : Int) ≤ 7 by decide)] at hQ
    conv => whnf
    exact hQ
  by_cases k5 : kd = 5
  · subst k5
    rw [hk (show (4 : Int) ≤ 5 ∧ (5 : Int) ≤ 7 by decide)] at hQ
    conv => whnf
    exact hQ
  by_cases k6 : kd = 6
  · subst k6
    rw [hk (show (4 : Int) ≤ 6 ∧ (6 : Int) ≤ 7 by decide)] at hQ
    conv => whnf
    exact hQ
  by_cases k7 : kd = 7
  · subst k7
    rw [hk (show (4 : Int) ≤ 7 ∧ (7 : Int) ≤ 7 by decide)] at hQ
    conv => whnf
    exact hQ
  by_cases k8 : kd = 8
  · subst k8
    conv => whnf
    refine dis_tc2 C (by decide) hi (fun (b0 : isT ts i s_lambda = true) => ?_) fun (b0 : isT ts i s_lambda = false) => ?_
    · conv => whnf
      rw [hw rfl, b0] at hQ
      exact hQ
    conv => whnf
    refine dis_tc2 C (by decide) hi (fun (b1 : isT ts i s_not = true) => ?_) fun (b1 : isT ts i s_not = false) => ?_
    · conv => whnf
      rw [hw rfl, b0, b1] at hQ
      exact hQ
    conv => whnf
    refine dis_tc2 C (by decide) hi (fun (b2 : isT ts i s_None = true) => ?_) fun (b2 : isT ts i s_None = false) => ?_
    · conv => whnf
      rw [hw rfl, b0, b1, b2] at hQ
      exact hQ
    conv => whnf
    refine dis_tc2 C (by decide) hi (fun (b3 : isT ts i s_True = true) => ?_) fun (b3 : isT ts i s_True = false) => ?_
    · conv => whnf
      rw [hw rfl, b0, b1, b2, b3] at hQ
      exact hQ
    conv => whnf
    refine dis_tc2 C (by decide) hi (fun (b4 : isT ts i s_False = true) => ?_) fun (b4 : isT ts i s_False = false) => ?_
    · conv => whnf
      rw [hw rfl, b0, b1, b2, b3, b4] at hQ
      exact hQ
    conv => whnf
    rw [hw rfl, b0, b1, b2, b3, b4] at hQ
    exact hQ
  by_cases k9 : kd = 9
  · subst k9
    conv => whnf
    refine dis_tc2 C (by decide) hi (fun (b0 : isT ts i s_plus = true) => ?_) fun (b0 : isT ts i s_plus = false) => ?_
    · conv => whnf
      rw [hs rfl, b0] at hQ
      exact hQ
    conv => whnf
    refine dis_tc2 C (by decide) hi (fun (b1 : isT ts i s_minus = true) => ?_) fun (b1 : isT ts i s_minus = false) => ?_
    · conv => whnf
      rw [hs rfl, b0, b1] at hQ
      exact hQ
    conv => whnf
    refine dis_tc2 C (by decide) hi (fun (b2 : isT ts i s_lpar = true) => ?_) fun (b2 : isT ts i s_lpar = false) => ?_
    · conv => whnf
      rw [hs rfl, b0, b1, b2] at hQ
      exact hQ
    conv => whnf
    refine dis_tc2 C (by decide) hi (fun (b3 : isT ts i s_lbrk = true) => ?_) fun (b3 : isT ts i s_lbrk = false) => ?_
    · conv => whnf
      rw [hs rfl, b0, b1, b2, b3] at hQ
      exact hQ
    conv => whnf
    refine dis_tc2 C (by decide) hi (fun (b4 : isT ts i s_lbrc = true) => ?_) fun (b4 : isT ts i s_lbrc = false) => ?_
    · conv => whnf
      rw [hs rfl, b0, b1, b2, b3, b4] at hQ
      exact hQ
    conv => whnf
    rw [hs rfl, b0, b1, b2, b3, b4] at hQ
    exact hQ
  rw [hn (by simp only; omega) k8 k9] at hQ
  conv => whnf
  refine ifT_c (fun h => absurd (by simpa using h) k4) fun _ => ?_
  conv => whnf
  refine ifT_c (fun h => absurd (by simpa using h) k5) fun _ => ?_
  conv => whnf
  refine ifT_c (fun h => absurd (by simpa using h) k6) fun _ => ?_
  conv => whnf
  refine ifT_c (fun h => absurd (by simpa using h) k7) fun _ => ?_
  conv => whnf
  refine ifT_c (fun h => absurd (by simpa using h) k8) fun _ => ?_
  conv => whnf
  refine ifT_c (fun h => absurd (by simpa using h) k9) fun _ => ?_
  conv => whnf
  exact hQ
theorem daugment_tc (C : DCtx Z ts sl) (hi : i ≤ ts.length) (h1 : augT ts i ≠ 0 → i < ts.length → Q (rS (.int .i64 (augT ts i : Nat))) (rdSb sl (i + 1) false)) (h2 : augT ts i = 0 → Q (rS (.int .i64 0)) (rdSb sl i false)) : TC Z (tblG Tryz.prog LG GG) X 121 [.ptr 0 0] (rdD sl i false) Q R := by
  refine tc_rG dtd_ok (by rfl) (by kernel_rfl) ?_
  conv in (rF _ _).body => reduce
  conv in (rF _ _).res => reduce
  conv => whnf
  refine dhas_tc C (by decide) hi (fun (b0 : isT ts i s_plusA = true) hl => ?_) (fun (b0 : isT ts i s_plusA = false) => ?_)
  · conv => whnf
    have e : augT ts i = 1 := by simp [augT, b0]
    have h1 := h1 (by rw [e]; decide) hl
    rw [e] at h1
    exact h1
  conv => whnf
  refine dhas_tc C (by decide) hi (fun (b1 : isT ts i s_minusA = true) hl => ?_) (fun (b1 : isT ts i s_minusA = false) => ?_)
  · conv => whnf
    have e : augT ts i = 2 := by simp [augT, b0, b1]
    have h1 := h1 (by rw [e]; decide) hl
    rw [e] at h1
    exact h1
  conv => whnf
  refine dhas_tc C (by decide) hi (fun (b2 : isT ts i s_starA = true) hl => ?_) (fun (b2 : isT ts i s_starA = false) => ?_)
  · conv => whnf
    have e : augT ts i = 3 := by simp [augT, b0, b1, b2]
    have h1 := h1 (by rw [e]; decide) hl
    rw [e] at h1
    exact h1
  conv => whnf
  refine dhas_tc C (by decide) hi (fun (b3 : isT ts i s_slashA = true) hl => ?_) (fun (b3 : isT ts i s_slashA = false) => ?_)
  · conv => whnf
    have e : augT ts i = 4 := by simp [augT, b0, b1, b2, b3]
    have h1 := h1 (by rw [e]; decide) hl
    rw [e] at h1
    exact h1
  conv => whnf
  refine dhas_tc C (by decide) hi (fun (b4 : isT ts i s_dslashA = true) hl => ?_) (fun (b4 : isT ts i s_dslashA = false) => ?_)
  · conv => whnf
    have e : augT ts i = 5 := by simp [augT, b0, b1, b2, b3, b4]
    have h1 := h1 (by rw [e]; decide) hl
    rw [e] at h1
    exact h1
  conv => whnf
  refine dhas_tc C (by decide) hi (fun (b5 : isT ts i s_pctA = true) hl => ?_) (fun (b5 : isT ts i s_pctA = false) => ?_)
  · conv => whnf
    have e : augT ts i = 6 := by simp [augT, b0, b1, b2, b3, b4, b5]
    have h1 := h1 (by rw [e]; decide) hl
    rw [e] at h1
    exact h1
  conv => whnf
  refine dhas_tc C (by decide) hi (fun (b6 : isT ts i s_dstarA = true) hl => ?_) (fun (b6 : isT ts i s_dstarA = false) => ?_)
  · conv => whnf
    have e : augT ts i = 7 := by simp [augT, b0, b1, b2, b3, b4, b5, b6]
    have h1 := h1 (by rw [e]; decide) hl
    rw [e] at h1
    exact h1
  conv => whnf
  exact h2 (by simp [augT, b0, b1, b2, b3, b4, b5, b6])
theorem doperator_tc (C : DCtx Z ts sl) (hi : i ≤ ts.length) (hE : ∀ e, opT ts i = .error e → Q (rS (.int .i64 8)) (rdSb sl e true)) (hQ : ∀ op j, opT ts i = .ok (op, j) → j ≤ ts.length → Q (rS (.int .i64 (op : Nat))) (rdSb sl j false)) : TC Z (tblG Tryz.prog LG GG) X 164 [.ptr 0 0] (rdD sl i false) Q R := by
  refine tc_rG dtd_ok (by rfl) (by kernel_rfl) ?_
  conv in (rF _ _).body => reduce
  conv in (rF _ _).res => reduce
  conv => whnf
  refine dhas_tc C (by decide) hi (fun (b0 : isT ts i s_eqeq = true) hl => ?_) (fun (b0 : isT ts i s_eqeq = false) => ?_)
  · conv => whnf
    exact hQ 1 (i + 1) (by simp [opT, b0]) hl
  conv => whnf
  refine dhas_tc C (by decide) hi (fun (b1 : isT ts i s_bne = true) hl => ?_) (fun (b1 : isT ts i s_bne = false) => ?_)
  · conv => whnf
    exact hQ 2 (i + 1) (by simp [opT, b0, b1]) hl
  conv => whnf
  refine dhas_tc C (by decide) hi (fun (b2 : isT ts i s_lt = true) hl => ?_) (fun (b2 : isT ts i s_lt = false) => ?_)
  · conv => whnf
    exact hQ 3 (i + 1) (by simp [opT, b0, b1, b2]) hl
  conv => whnf
  refine dhas_tc C (by decide) hi (fun (b3 : isT ts i s_le = true) hl => ?_) (fun (b3 : isT ts i s_le = false) => ?_)
  · conv => whnf
    exact hQ 4 (i + 1) (by simp [opT, b0, b1, b2, b3]) hl
  conv => whnf
  refine dhas_tc C (by decide) hi (fun (b4 : isT ts i s_gt = true) hl => ?_) (fun (b4 : isT ts i s_gt = false) => ?_)
  · conv => whnf
    exact hQ 5 (i + 1) (by simp [opT, b0, b1, b2, b3, b4]) hl
  conv => whnf
  refine dhas_tc C (by decide) hi (fun (b5 : isT ts i s_ge = true) hl => ?_) (fun (b5 : isT ts i s_ge = false) => ?_)
  · conv => whnf
    exact hQ 6 (i + 1) (by simp [opT, b0, b1, b2, b3, b4, b5]) hl
  conv => whnf
  refine dhas_tc C (by decide) hi (fun (b6 : isT ts i s_in = true) hl => ?_) (fun (b6 : isT ts i s_in = false) => ?_)
  · conv => whnf
    exact hQ 7 (i + 1) (by simp [opT, b0, b1, b2, b3, b4, b5, b6]) hl
  conv => whnf
  refine dhas_tc C (by decide) hi (fun (b7 : isT ts i s_not = true) hl => ?_) (fun (b7 : isT ts i s_not = false) => ?_)
  · conv => whnf
    refine dwant_tc C (by decide) hl (fun (c0 : isT ts (i + 1) s_in = true) hl => ?_) (fun (c0 : isT ts (i + 1) s_in = false) => ?_)
    · conv => whnf
      exact hQ 8 (i + 2) (by simp [opT, b0, b1, b2, b3, b4, b5, b6, b7, c0]) hl
    · conv => whnf
      exact hE (i + 1) (by simp [opT, b0, b1, b2, b3, b4, b5, b6, b7, c0])
  conv => whnf
  refine dhas_tc C (by decide) hi (fun (b8 : isT ts i s_is = true) hl => ?_) (fun (b8 : isT ts i s_is = false) => ?_)
  · conv => whnf
    refine dhas_tc C (by decide) hl (fun (c0 : isT ts (i + 1) s_not = true) hl => ?_) (fun (c0 : isT ts (i + 1) s_not = false) => ?_)
    · conv => whnf
      exact hQ 10 (i + 2) (by simp [opT, b0, b1, b2, b3, b4, b5, b6, b7, b8, c0]) hl
    · conv => whnf
      exact hQ 9 (i + 1) (by simp [opT, b0, b1, b2, b3, b4, b5, b6, b7, b8, c0]) hl
  conv => whnf
  exact hQ 0 i (by simp [opT, b0, b1, b2, b3, b4, b5, b6, b7, b8]) hi
theorem dhas_tb (C : DCtx Z ts sl) {s : ByteArray} (hi : i ≤ ts.length) (hQ : Q (rS (.bool false)) (rdSb sl i true)) : TC Z (tblG Tryz.prog LG GG) X 36 [.ptr 0 0, rS (.string s)] (rdD sl i true) Q R := by
  refine tc_rG dtd_ok (by rfl) (by kernel_rfl) ?_
  conv in (rF _ _).body => reduce
  conv in (rF _ _).res => reduce
  conv => whnf
  refine dis_tb C hi ?_
  conv => whnf
  exact hQ
theorem dwant_tb (C : DCtx Z ts sl) {s : ByteArray} (hi : i ≤ ts.length) (hQ : Q (.tup []) (rdSb sl i true)) : TC Z (tblG Tryz.prog LG GG) X 39 [.ptr 0 0, rS (.string s)] (rdD sl i true) Q R := by
  refine tc_rG dtd_ok (by rfl) (by kernel_rfl) ?_
  conv in (rF _ _).body => reduce
  conv in (rF _ _).res => reduce
  conv => whnf
  refine dhas_tb C hi ?_
  conv => whnf
  exact hQ
theorem dwantKind_tb (C : DCtx Z ts sl) {k : Int} (hi : i ≤ ts.length) (hQ : Q (rS (.string ⟨⟨[]⟩⟩)) (rdSb sl i true)) : TC Z (tblG Tryz.prog LG GG) X 43 [.ptr 0 0, rS (.int .i64 k)] (rdD sl i true) Q R := by
  refine tc_rG dtd_ok (by rfl) (by kernel_rfl) ?_
  conv in (rF _ _).body => reduce
  conv in (rF _ _).res => reduce
  conv => whnf
  refine dnow_tc C hi ?_
  conv => whnf
  exact hQ
theorem daugment_tb (C : DCtx Z ts sl) (hi : i ≤ ts.length) (hQ : Q (rS (.int .i64 0)) (rdSb sl i true)) : TC Z (tblG Tryz.prog LG GG) X 121 [.ptr 0 0] (rdD sl i true) Q R := by
  refine tc_rG dtd_ok (by rfl) (by kernel_rfl) ?_
  conv in (rF _ _).body => reduce
  conv in (rF _ _).res => reduce
  conv => whnf
  refine dhas_tb C hi ?_
  conv => whnf
  refine dhas_tb C hi ?_
  conv => whnf
  refine dhas_tb C hi ?_
  conv => whnf
  refine dhas_tb C hi ?_
  conv => whnf
  refine dhas_tb C hi ?_
  conv => whnf
  refine dhas_tb C hi ?_
  conv => whnf
  refine dhas_tb C hi ?_
  conv => whnf
  exact hQ
theorem doperator_tb (C : DCtx Z ts sl) (hi : i ≤ ts.length) (hQ : Q (rS (.int .i64 0)) (rdSb sl i true)) : TC Z (tblG Tryz.prog LG GG) X 164 [.ptr 0 0] (rdD sl i true) Q R := by
  refine tc_rG dtd_ok (by rfl) (by kernel_rfl) ?_
  conv in (rF _ _).body => reduce
  conv in (rF _ _).res => reduce
  conv => whnf
  refine dhas_tb C hi ?_
  conv => whnf
  refine dhas_tb C hi ?_
  conv => whnf
  refine dhas_tb C hi ?_
  conv => whnf
  refine dhas_tb C hi ?_
  conv => whnf
  refine dhas_tb C hi ?_
  conv => whnf
  refine dhas_tb C hi ?_
  conv => whnf
  refine dhas_tb C hi ?_
  conv => whnf
  refine dhas_tb C hi ?_
  conv => whnf
  refine dhas_tb C hi ?_
  conv => whnf
  exact hQ
theorem dbegins_tb (C : DCtx Z ts sl) (hi : i ≤ ts.length) (hQ : Q (rS (.bool false)) (rdSb sl i true)) : TC Z (tblG Tryz.prog LG GG) X 79 [.ptr 0 0] (rdD sl i true) Q R := by
  refine tc_rG dtd_ok (by rfl) (by kernel_rfl) ?_
  conv in (rF _ _).body => reduce
  conv in (rF _ _).res => reduce
  conv => whnf
  refine dnow_tc C hi ?_
  obtain ⟨t, ht⟩ : ∃ t, nowT ts i = t := ⟨_, rfl⟩
  rw [ht]
  obtain ⟨kd, ln, tx⟩ := t
  by_cases k4 : kd = 4
  · subst k4
    conv => whnf
    exact hQ
  by_cases k5 : kd = 5
  · subst k5
    conv => whnf
    exact hQ
  by_cases k6 : kd = 6
  · subst k6
    conv => whnf
    exact hQ
  by_cases k7 : kd = 7
  · subst k7
    conv => whnf
    exact hQ
  by_cases k8 : kd = 8
  · subst k8
    conv => whnf
    refine dis_tb C hi ?_
    conv => whnf
    refine dis_tb C hi ?_
    conv => whnf
    refine dis_tb C hi ?_
    conv => whnf
    refine dis_tb C hi ?_
    conv => whnf
    refine dis_tb C hi ?_
    conv => whnf
    exact hQ
  by_cases k9 : kd = 9
  · subst k9
    conv => whnf
    refine dis_tb C hi ?_
    conv => whnf
    refine dis_tb C hi ?_
    conv => whnf
    refine dis_tb C hi ?_
    conv => whnf
    refine dis_tb C hi ?_
    conv => whnf
    refine dis_tb C hi ?_
    conv => whnf
    exact hQ
  conv => whnf
  refine ifT_c (fun h => absurd (by simpa using h) k4) fun _ => ?_
  conv => whnf
  refine ifT_c (fun h => absurd (by simpa using h) k5) fun _ => ?_
  conv => whnf
  refine ifT_c (fun h => absurd (by simpa using h) k6) fun _ => ?_
  conv => whnf
  refine ifT_c (fun h => absurd (by simpa using h) k7) fun _ => ?_
  conv => whnf
  refine ifT_c (fun h => absurd (by simpa using h) k8) fun _ => ?_
  conv => whnf
  refine ifT_c (fun h => absurd (by simpa using h) k9) fun _ => ?_
  conv => whnf
  exact hQ
end
end Can
end Go.Proofs.YtnankhlanilbbaaGreat
end
