/- Slide: Alike of a memory and what a collection made of it. -/
import Derived.Test.YtjgigomeneddpaaSlOrdLaw
namespace Go.Proofs.Ytjgigomeneddpaa
namespace Can
open Go Go.RowKit
set_option linter.unusedSimpArgs false
set_option linter.unusedVariables false
set_option maxRecDepth 4000
noncomputable def prC (ws roots : List Int) (ls : List Nat) (a : Nat) : List Value := [.int .i64 (a : Int), .int .i64 (nto ws roots ls a : Int)]
theorem prC_len {ws roots : List Int} {ls : List Nat} : ∀ {st : List Nat}, (st.flatMap (prC ws roots ls)).length = st.length * 2
  | [] => rfl
  | a :: st => by
    have := prC_len (ws := ws) (roots := roots) (ls := ls) (st := st)
    simp only [List.flatMap_cons, List.length_append, List.length_cons, this, prC, List.length_nil]; omega
/-- The stack of pairs. -/
def TdP (ws roots : List Int) (ls : List Nat) (lo : Nat) (K : CH) (v : Value) (st : List Nat) : Prop := (st = [] ∧ v = .slice none 0 0) ∨
  ∃ x c cs, v = .slice (some ⟨x, 0, none⟩) st.length c ∧ lo ≤ x ∧ x < K.nx ∧ K.ob x = .cells cs 73 .gr ∧ st.length ≤ c ∧ st.length * 2 ≤ cs.length ∧ cs.take (st.length * 2) = st.flatMap (prC ws roots ls)
theorem TdP.mv {ws roots : List Int} {ls : List Nat} {lo : Nat} {K K' : CH} {v : Value} {st : List Nat} (h : TdP ws roots ls lo K v st) (hn : K.nx ≤ K'.nx) (hk : ∀ y, lo ≤ y → y < K.nx → (∃ o n c, v = .slice (some ⟨y, o, none⟩) n c) → K'.ob y = K.ob y) : TdP ws roots ls lo K' v st := by
  rcases h with h | ⟨x, c, cs, h1, h2, h3, h4, h5⟩
  · exact .inl h
  · exact .inr ⟨x, c, cs, h1, h2, by omega, (hk x h2 h3 ⟨_, _, _, h1⟩).trans h4, h5⟩
theorem tdp_app {ws roots : List Int} {ls : List Nat} {lo : Nat} {K : CH} {v : Value} {st : List Nat} {a : Nat} {xs : List Value} (h : TdP ws roots ls lo K v st) (hlo : lo ≤ K.nx) (hb : st.length ≤ 1048576) (hx : xs = prC ws roots ls a)
    {Q : Value → CH → Prop} (k : ∀ v' K', TdP ws roots ls lo K' v' (st ++ [a]) → K.nx ≤ K'.nx → (∀ y, y < K.nx → (∀ o n c, v ≠ .slice (some ⟨y, o, none⟩) n c) → K'.ob y = K.ob y) → (∀ y o n c, v' = .slice (some ⟨y, o, none⟩) n c → K.nx ≤ y) → Q v' K') : optW (appV 73 2 16 v xs 1 K) Q := by
  subst hx
  have hall : (prC ws roots ls a).all isCell = true := rfl
  rcases h with ⟨rfl, rfl⟩ | ⟨x, c, cs, rfl, h2, h3, h4, h5, h6, h7⟩
  · rw [appV_n, if_neg (by decide), if_pos ⟨hall, by decide, by rw [maxLen_eq]; decide⟩]
    refine k _ _ (.inr ⟨K.nx, 1, _, rfl, hlo, by show K.nx < K.nx + 1; omega, new_get.trans (if_pos rfl), by simp, by simp [prC], rfl⟩) (Nat.le_succ _) (fun y hy _ => by rw [new_get, if_neg (by omega)]) fun y o n c e => by cases e; exact Nat.le_refl _
  · rw [appV_r, h4, appR_c, if_neg (by decide), if_pos ⟨rfl, rfl, rfl, h6, hall, by omega, by rw [maxLen_eq]; omega⟩]
    refine k _ _ (.inr ⟨K.nx, st.length + 1, _, by simp, hlo, by show K.nx < K.nx + 1; omega, new_get.trans (if_pos rfl), by simp, ?_, ?_⟩) (Nat.le_succ _) (fun y hy hne => ?_) fun y o n c e => by cases e; exact Nat.le_refl _
    · simp [prC]; omega
    · rw [h7, List.flatMap_append, List.take_of_length_le]
      · simp
      · simp only [List.length_append, prC_len, List.length_cons, List.length_nil, prC]; omega
    · have : y ≠ x := fun e => hne _ _ _ (by rw [e])
      simp only [appH, Kd.isEx, Bool.false_and, Bool.false_eq_true, if_false]
      rw [new_get, if_neg (by show ¬ y = K.nx; omega), set_get, if_neg this]
/-- What the comparison keeps. -/
structure AI (ws roots : List Int) (tn tm : Nat) (ls : List Nat) (th bk : Nat → Int) (S st : List Nat) : Prop where
  yes : ∀ a ∈ S, th a = (nto ws roots ls a : Int) ∧ bk (nto ws roots ls a) = (a : Int)
  no : ∀ a, a < tn → a ∉ S → th a = 0
  nob : ∀ b, b < tm → (∀ a ∈ S, nto ws roots ls a ≠ b) → bk b = 0
  nd : S.Nodup
  rc : ∀ a ∈ S, a ∈ ls ∧ Rc ws roots a
  sub : ∀ a ∈ st, a ∈ S
  stl : st.length ≤ S.length
/-- What match answers. -/
def MtOut (ws roots : List Int) (tn tm : Nat) (ls : List Nat) (lo bt bb : Nat) (K : CH) (tv : Value) (S st : List Nat) (v : Value) (K' : CH) : Prop :=
  ∃ tv' th bk S' st', v = .tuple #[tv', .bool true] ∧ K.nx ≤ K'.nx ∧ K'.ob bt = .cells (fnI tn th) 3 .ex ∧ K'.ob bb = .cells (fnI tm bk) 3 .ex ∧ AI ws roots tn tm ls th bk S' st' ∧ TdP ws roots ls lo K' tv' st' ∧
    2 * (ls.length - S'.length) + st'.length ≤ 2 * (ls.length - S.length) + st.length ∧ (∀ y, y < K.nx → y ≠ bt → y ≠ bb → (∀ o n c, tv ≠ .slice (some ⟨y, o, none⟩) n c) → K'.ob y = K.ob y) ∧ (∀ y o n c, tv' = .slice (some ⟨y, o, none⟩) n c → K.nx ≤ y ∨ ∃ o n c, tv = .slice (some ⟨y, o, none⟩) n c)
theorem match_wp {K : CH} {ws roots : List Int} {tn tm lo bt bb : Nat} {ls S st : List Nat} {th bk : Nat → Int} {tv : Value} {w : Int} (hF : Form ws tn ls) (htm : tm = Pk ws roots ls ls.length) (hA : AI ws roots tn tm ls th bk S st) (hT : TdP ws roots ls lo K tv st) (hbt : K.ob bt = .cells (fnI tn th) 3 .ex) (hbb : K.ob bb = .cells (fnI tm bk) 3 .ex) (h1 : bt < lo) (h2 : bb < lo) (h3 : lo ≤ K.nx) (h4 : bt ≠ bb)
    (w0 : 0 ≤ w) (w1 : w < 18446744073709551616) (hk : kindF w ≠ 3) (hr : kindF w = 0 → adr w ∈ ls ∧ Rc ws roots (adr w)) :
    WpF (tblG Try.prog LG GG) 41 [.int .u64 w, .int .u64 (turnF ws roots ls w), .slice (some ⟨bt, 0, none⟩) tn tn, .slice (some ⟨bb, 0, none⟩) tm tm, tv] K fun v K' => MtOut ws roots tn tm ls lo bt bb K tv S st v K' := by
  have htk := turn_kind (roots := roots) hF hk hr
  have htu := turnF_u64 (roots := roots) hF w0 w1 hr
  obtain ⟨t, ht⟩ : ∃ t, turnF ws roots ls w = t := ⟨_, rfl⟩
  have hlen := hF.len
  have hcl := hF.ch.len
  have htop := hF.top
  have hPt := Pk_top (roots := roots) hF
  by_cases k0 : kindF w = 0
  case neg =>
    have hte : turnF ws roots ls w = w := by unfold turnF; rw [if_neg k0]
    rw [hte]
    have heA : eAt w = 9 := by unfold eAt; rw [if_neg k0]
    refine wpF_rG (by rfl) (by kernel_rfl) ?_; (conv in (rF _ _).body => reduce); (conv in (rF _ _).res => reduce)
    repeat' (first | (simp (disch := first | omega | (decide +kernel) | (repeat (first | assumption | exact HExt.refl _ | (refine HExt.set ?_ (by first | omega | (simp only [new_nx, set_nx]; omega)) _) | (refine HExt.new ?_ _)))) only [↓RD, RU, accW_t, accW_f, isW, ↓putF_get, ↓putF_none, ↓evF_t, ↓evF_c, ↓evF_f, new_nx, set_nx, new_get, set_get, getD_zero, getD_succ, u_not, pop, lop, aop, wop, resL, resV, tupleV, akV, isVal, isCell, Value.cells, List.map_cons, List.map_nil, Bool.not_true, Bool.not_false, Option.map_some, ↓reduceIte, Nat.reduceEqDiff, Nat.reduceAdd, Int.reduceOfNat, Int.reduceNegSucc, reduceCtorEq, List.getElem?_cons_zero, List.getElem?_cons_succ, List.length_cons, List.length_nil, srcR_c, src_n, src_v, src_s, bnd, lenV, capV, Option.isSome_none, Option.isNone_none, Option.isSome_some, Option.isNone_some, Bool.true_or, Bool.false_or, List.take_succ_cons, List.take_zero, List.drop_succ_cons, List.drop_zero, List.cons_append, List.nil_append, List.drop_nil, List.all_cons, List.all_nil, Bool.true_and, Kd.isRo, List.size_toArray, List.toList_toArray, bldV, Nat.reduceLeDiff, Int.reduceMul, Int.reduceAdd, Int.reduceSub, Int.reduceToNat, maxLen_eq, zeros_one, appS_some, appV_n, appV_v, appH_t, appH_f, Kd.isEx, Bool.false_and, partV, Nat.add_zero, Int.toNat_natCast, rat_iff, heA]) | (with_reducible refine condK_dec (fun _ => ?_) (fun _ => ?_)) | (with_reducible refine grd_dec (fun _ => ?_) (fun _ => ?_)) | (with_reducible refine egrd_dec (fun _ => ?_) (fun _ => ?_)))
    exact ⟨tv, th, bk, S, st, rfl, Nat.le_refl _, hbt, hbb, hA, hT, Nat.le_refl _, fun _ _ _ _ _ => rfl, fun y o n c e => .inr ⟨_, _, _, e⟩⟩
  obtain ⟨hm, hrc⟩ := hr k0
  have hlt := hF.ch.mem _ hm
  have hend := nto_end hm hrc
  have hnp := nto_pos (ws := ws) (roots := roots) (ls := ls) (a := adr w)
  have heA : eAt w = 0 := by unfold eAt; rw [if_pos k0]
  have hnA : nAt w = (adr w : Int) := by unfold nAt adr; rw [if_pos k0]; omega
  have kt : kindF t = 0 := by rw [← ht, htk.1, k0]
  have heB : eAt t = 0 := by unfold eAt; rw [if_pos kt]
  have hnB : nAt t = (nto ws roots ls (adr w) : Int) := by
    have h := htk.2 k0
    rw [ht] at h
    unfold nAt
    rw [if_pos kt, ← h]
    unfold adr
    rw [ht] at htu
    omega
  rw [ht] at htu ⊢
  obtain ⟨a, ha⟩ : ∃ a, adr w = a := ⟨_, rfl⟩
  obtain ⟨b, hb⟩ : ∃ b, nto ws roots ls a = b := ⟨_, rfl⟩
  rw [ha] at hm hrc hlt hend hnp hnA hnB
  rw [hb] at hend hnp hnB
  have hg1 := fnI_get (n := tn) (f := th) (i := a) (by omega)
  have hg2 := fnI_get (n := tm) (f := bk) (i := b) (by omega)
  by_cases hS : a ∈ S
  · obtain ⟨e1, e2⟩ := hA.yes a hS
    rw [hb] at e1 e2
    rw [e1] at hg1
    rw [e2] at hg2
    refine wpF_rG (by rfl) (by kernel_rfl) ?_; (conv in (rF _ _).body => reduce); (conv in (rF _ _).res => reduce)
    repeat' (first | (simp (disch := first | omega | (decide +kernel) | (repeat (first | assumption | exact HExt.refl _ | (refine HExt.set ?_ (by first | omega | (simp only [new_nx, set_nx]; omega)) _) | (refine HExt.new ?_ _)))) only [↓RD, RU, accW_t, accW_f, isW, ↓putF_get, ↓putF_none, ↓evF_t, ↓evF_c, ↓evF_f, new_nx, set_nx, new_get, set_get, getD_zero, getD_succ, u_not, pop, lop, aop, wop, resL, resV, tupleV, akV, isVal, isCell, Value.cells, List.map_cons, List.map_nil, Bool.not_true, Bool.not_false, Option.map_some, ↓reduceIte, Nat.reduceEqDiff, Nat.reduceAdd, Int.reduceOfNat, Int.reduceNegSucc, reduceCtorEq, List.getElem?_cons_zero, List.getElem?_cons_succ, List.length_cons, List.length_nil, srcR_c, src_n, src_v, src_s, bnd, lenV, capV, Option.isSome_none, Option.isNone_none, Option.isSome_some, Option.isNone_some, Bool.true_or, Bool.false_or, List.take_succ_cons, List.take_zero, List.drop_succ_cons, List.drop_zero, List.cons_append, List.nil_append, List.drop_nil, List.all_cons, List.all_nil, Bool.true_and, Kd.isRo, List.size_toArray, List.toList_toArray, bldV, Nat.reduceLeDiff, Int.reduceMul, Int.reduceAdd, Int.reduceSub, Int.reduceToNat, maxLen_eq, zeros_one, appS_some, appV_n, appV_v, appH_t, appH_f, Kd.isEx, Bool.false_and, partV, Nat.add_zero, Int.toNat_natCast, rat_iff, heA, hnA, heB, hnB, hbt, hbb, hg1, hg2]) | (with_reducible refine condK_dec (fun _ => ?_) (fun _ => ?_)) | (with_reducible refine grd_dec (fun _ => ?_) (fun _ => ?_)) | (with_reducible refine egrd_dec (fun _ => ?_) (fun _ => ?_)))
    all_goals exact ⟨tv, th, bk, S, st, rfl, Nat.le_refl _, hbt, hbb, hA, hT, Nat.le_refl _, fun _ _ _ _ _ => rfl, fun y o n c e => .inr ⟨_, _, _, e⟩⟩
  · have e1 := hA.no a (by omega) hS
    have hnb : ∀ x ∈ S, nto ws roots ls x ≠ b := fun x hx e => hS (by
      have := hA.rc x hx
      rw [← nto_one hF this.1 hm this.2 hrc (by rw [e, hb])]; exact hx)
    have e2 := hA.nob b (by omega) hnb
    rw [e1] at hg1
    rw [e2] at hg2
    have hs1 := fnI_set (n := tn) (f := th) (i := a) (x := (b : Int)) (by omega)
    have hs2 := fnI_set (n := tm) (f := bk) (i := b) (x := (a : Int)) (by omega)
    have hnd : (a :: S).Nodup := List.nodup_cons.2 ⟨hS, hA.nd⟩
    have hSl := len_le hnd (fun y hy => (by
      rcases List.mem_cons.1 hy with rfl | hy
      · exact hm
      · exact (hA.rc y hy).1 : y ∈ ls))
    have hA' : AI ws roots tn tm ls (upF th a (b : Int)) (upF bk b (a : Int)) (a :: S) (st ++ [a]) := by
      refine ⟨fun x hx => ?_, fun x hx hxs => ?_, fun y hy hne => ?_, hnd, fun x hx => ?_, fun x hx => ?_, by have := hA.stl; simp; omega⟩
      · unfold upF
        rcases List.mem_cons.1 hx with rfl | hx
        · rw [if_pos rfl, hb, if_pos rfl]; exact ⟨rfl, rfl⟩
        · have g := hA.yes x hx
          rw [if_neg (fun e : x = a => hS (by rw [← e]; exact hx)), if_neg (hnb x hx)]; exact g
      · unfold upF
        rw [if_neg (fun e : x = a => hxs (by rw [e]; exact List.mem_cons_self ..))]
        exact hA.no x hx fun h => hxs (List.mem_cons_of_mem _ h)
      · unfold upF
        rw [if_neg (fun e => hne a (List.mem_cons_self ..) (by rw [hb, e]))]
        exact hA.nob y hy fun x hx => hne x (List.mem_cons_of_mem _ hx)
      · rcases List.mem_cons.1 hx with rfl | hx
        · exact ⟨hm, hrc⟩
        · exact hA.rc x hx
      · rcases List.mem_append.1 hx with hx | hx
        · exact List.mem_cons_of_mem _ (hA.sub x hx)
        · simp at hx; rw [hx]; exact List.mem_cons_self ..
    have hstl := hA.stl
    simp only [List.length_cons] at hSl
    refine wpF_rG (by rfl) (by kernel_rfl) ?_; (conv in (rF _ _).body => reduce); (conv in (rF _ _).res => reduce)
    repeat' (first | (simp (disch := first | omega | (decide +kernel) | (repeat (first | assumption | exact HExt.refl _ | (refine HExt.set ?_ (by first | omega | (simp only [new_nx, set_nx]; omega)) _) | (refine HExt.new ?_ _)))) only [↓RD, RU, accW_t, accW_f, isW, ↓putF_get, ↓putF_none, ↓evF_t, ↓evF_c, ↓evF_f, new_nx, set_nx, new_get, set_get, getD_zero, getD_succ, u_not, pop, lop, aop, wop, resL, resV, tupleV, akV, isVal, isCell, Value.cells, List.map_cons, List.map_nil, Bool.not_true, Bool.not_false, Option.map_some, ↓reduceIte, Nat.reduceEqDiff, Nat.reduceAdd, Int.reduceOfNat, Int.reduceNegSucc, reduceCtorEq, List.getElem?_cons_zero, List.getElem?_cons_succ, List.length_cons, List.length_nil, srcR_c, src_n, src_v, src_s, bnd, lenV, capV, Option.isSome_none, Option.isNone_none, Option.isSome_some, Option.isNone_some, Bool.true_or, Bool.false_or, List.take_succ_cons, List.take_zero, List.drop_succ_cons, List.drop_zero, List.cons_append, List.nil_append, List.drop_nil, List.all_cons, List.all_nil, Bool.true_and, Kd.isRo, List.size_toArray, List.toList_toArray, bldV, Nat.reduceLeDiff, Int.reduceMul, Int.reduceAdd, Int.reduceSub, Int.reduceToNat, maxLen_eq, zeros_one, appS_some, appV_n, appV_v, appH_t, appH_f, Kd.isEx, Bool.false_and, partV, Nat.add_zero, Int.toNat_natCast, rat_iff, heA, hnA, heB, hnB, hbt, hbb, hg1, hg2, ↓hs1, ↓hs2, fnI_len]) | (with_reducible refine condK_dec (fun _ => ?_) (fun _ => ?_)) | (with_reducible refine grd_dec (fun _ => ?_) (fun _ => ?_)) | (with_reducible refine egrd_dec (fun _ => ?_) (fun _ => ?_)))
    have hT2 : TdP ws roots ls lo (((K.set bt (.cells (fnI tn (upF th a (b : Int))) 3 .ex)).set bb (.cells (fnI tm (upF bk b (a : Int))) 3 .ex)).new (.cells [.int .i64 (a : Int), .int .i64 (b : Int)] 73 .ex)) tv st := hT.mv (Nat.le_succ _) fun y hy hyn _ => by rw [new_get, if_neg (by show ¬ y = K.nx; omega), set_get, if_neg (by omega), set_get, if_neg (by omega)]
    refine tdp_app (a := a) hT2 (by show lo ≤ K.nx + 1; omega) (by omega) (by unfold prC; rw [hb]; rfl) fun v' K' j1 j2 j3 j4 => ?_
    have j2' : K.nx + 1 ≤ K'.nx := j2
    have hrow : ∀ y, y < lo → ∀ o n c, tv ≠ .slice (some ⟨y, o, none⟩) n c := fun y hy o n c e => by
      rcases hT with ⟨_, h⟩ | ⟨x, c', cs, h, hl, _⟩
      · rw [h] at e; cases e
      · rw [h] at e; cases e; omega
    repeat' (first | (simp (disch := first | omega | (decide +kernel) | (repeat (first | assumption | exact HExt.refl _ | (refine HExt.set ?_ (by first | omega | (simp only [new_nx, set_nx]; omega)) _) | (refine HExt.new ?_ _)))) only [↓RD, RU, accW_t, accW_f, isW, ↓putF_get, ↓putF_none, ↓evF_t, ↓evF_c, ↓evF_f, new_nx, set_nx, new_get, set_get, getD_zero, getD_succ, u_not, pop, lop, aop, wop, resL, resV, tupleV, akV, isVal, isCell, Value.cells, List.map_cons, List.map_nil, Bool.not_true, Bool.not_false, Option.map_some, ↓reduceIte, Nat.reduceEqDiff, Nat.reduceAdd, Int.reduceOfNat, Int.reduceNegSucc, reduceCtorEq, List.getElem?_cons_zero, List.getElem?_cons_succ, List.length_cons, List.length_nil, srcR_c, src_n, src_v, src_s, bnd, lenV, capV, Option.isSome_none, Option.isNone_none, Option.isSome_some, Option.isNone_some, Bool.true_or, Bool.false_or, List.take_succ_cons, List.take_zero, List.drop_succ_cons, List.drop_zero, List.cons_append, List.nil_append, List.drop_nil, List.all_cons, List.all_nil, Bool.true_and, Kd.isRo, List.size_toArray, List.toList_toArray, bldV, Nat.reduceLeDiff, Int.reduceMul, Int.reduceAdd, Int.reduceSub, Int.reduceToNat, maxLen_eq, zeros_one, appS_some, appV_n, appV_v, appH_t, appH_f, Kd.isEx, Bool.false_and, partV, Nat.add_zero, Int.toNat_natCast]) | (with_reducible refine condK_dec (fun _ => ?_) (fun _ => ?_)) | (with_reducible refine grd_dec (fun _ => ?_) (fun _ => ?_)) | (with_reducible refine egrd_dec (fun _ => ?_) (fun _ => ?_)))
    refine ⟨v', _, _, a :: S, st ++ [a], rfl, by omega, ?_, ?_, hA', j1, ?_, fun y hy h5 h6 h7 => ?_, fun y o n c e => .inl (by have := j4 y o n c e; have e2 : K.nx + 1 ≤ y := this; omega)⟩
    · rw [j3 bt (by show bt < K.nx + 1; omega) (hrow bt h1), new_get, if_neg (by show ¬ bt = K.nx; omega), set_get, if_neg h4, set_get, if_pos rfl]
    · rw [j3 bb (by show bb < K.nx + 1; omega) (hrow bb h2), new_get, if_neg (by show ¬ bb = K.nx; omega), set_get, if_pos rfl]
    · simp only [List.length_cons, List.length_append, List.length_nil]; omega
    · rw [j3 y (by show y < K.nx + 1; omega) h7, new_get, if_neg (by show ¬ y = K.nx; omega), set_get, if_neg h6, set_get, if_neg h5]
theorem tdp_top {ws roots : List Int} {ls : List Nat} {lo : Nat} {K : CH} {v : Value} {st : List Nat} {a : Nat} (h : TdP ws roots ls lo K v (st ++ [a])) : ∃ x c cs, v = .slice (some ⟨x, 0, none⟩) (st.length + 1) c ∧ lo ≤ x ∧ x < K.nx ∧ K.ob x = .cells cs 73 .gr ∧ st.length + 1 ≤ c ∧ (st.length + 1) * 2 ≤ cs.length ∧ ((cs.drop (st.length * 2)).take 2) = prC ws roots ls a ∧ TdP ws roots ls lo K (.slice (some ⟨x, 0, none⟩) st.length c) st := by
  rcases h with ⟨h, _⟩ | ⟨x, c, cs, rfl, h2, h3, h4, h5, h6, h7⟩
  · simp at h
  · have hl : (st ++ [a]).length = st.length + 1 := by simp
    rw [hl] at h5 h6 h7
    have hA : (st ++ [a]).flatMap (prC ws roots ls) = st.flatMap (prC ws roots ls) ++ prC ws roots ls a := by simp [List.flatMap_append]
    rw [hA] at h7
    refine ⟨x, c, cs, by rw [hl], h2, h3, h4, h5, h6, ?_, .inr ⟨x, c, cs, rfl, h2, h3, h4, by omega, by omega, ?_⟩⟩
    · have h8 := congrArg (List.drop (st.length * 2)) h7
      rw [List.drop_take, List.drop_left' prC_len] at h8
      have e : (st.length + 1) * 2 - st.length * 2 = 2 := by omega
      rw [e] at h8
      exact h8
    · have h8 := congrArg (List.take (st.length * 2)) h7
      rw [List.take_take, List.take_left' prC_len] at h8
      have e : min (st.length * 2) ((st.length + 1) * 2) = st.length * 2 := by omega
      rw [e] at h8
      exact h8
theorem gok_o : @gOK Try.prog 64 = true := by unfold gOK; kernel_rfl
theorem gks_o : @gKs Try.prog 64 = [0, 0, 0] := by unfold gKs; kernel_rfl
set_option maxHeartbeats 1000000 in
theorem alike_wp {H : CH} {p p' q q' : Option Addr} {c c' d d' : Nat} {ws roots : List Int} {tn : Nat} {ls : List Nat} (hF : Form ws tn ls) (hr : RtOk ls roots) (hw : Words H p c ws) (hw' : Words H p' c' (colL ws roots ls)) (hrs : SlAt 1 (CInt .u64) H q d roots) (hrs' : SlAt 1 (CInt .u64) H q' d' (roots.map (turnF ws roots ls))) (hrl : roots.length ≤ 17592186043904) :
    WpF (tblG Try.prog LG GG) 24 [.agg #[.slice p ws.length c, .int .i64 (tn : Int)], .slice q roots.length d, .agg #[.slice p' ws.length c', .int .i64 (Pk ws roots ls ls.length : Int)], .slice q' roots.length d'] H fun v K => v = .bool true ∧ HExt H K := by
  have hu := sl_u64 hw.1
  have hur := sl_u64 hrs
  have hlen := hF.len
  have htop := hF.top
  have hcl := hF.ch.len
  have hPt := Pk_top (roots := roots) hF
  have hNF := new_form (roots := roots) hF hu
  have hcw : (colL ws roots ls).length = ws.length := colL_len
  obtain ⟨tm, htm⟩ : ∃ tm, Pk ws roots ls ls.length = tm := ⟨_, rfl⟩
  rw [htm] at hPt hNF ⊢
  have hz1 := zeros_fnI tn
  have hz2 := zeros_fnI tm
  refine wpF_rG (by rfl) (by kernel_rfl) ?_; (conv in (rF _ _).body => reduce); (conv in (rF _ _).res => reduce)
  repeat' (first | (simp (disch := first | omega | (decide +kernel) | (repeat (first | assumption | exact HExt.refl _ | (refine HExt.set ?_ (by first | omega | (simp only [new_nx, set_nx]; omega)) _) | (refine HExt.new ?_ _)))) only [↓RD, RU, accW_t, accW_f, isW, ↓putF_get, ↓putF_none, ↓evF_t, ↓evF_c, ↓evF_f, new_nx, set_nx, new_get, set_get, getD_zero, getD_succ, u_not, pop, lop, aop, wop, resL, resV, tupleV, akV, isVal, isCell, Value.cells, List.map_cons, List.map_nil, Bool.not_true, Bool.not_false, Option.map_some, ↓reduceIte, Nat.reduceEqDiff, Nat.reduceAdd, Int.reduceOfNat, Int.reduceNegSucc, reduceCtorEq, List.getElem?_cons_zero, List.getElem?_cons_succ, List.length_cons, List.length_nil, srcR_c, src_n, src_v, src_s, bnd, lenV, capV, Option.isSome_none, Option.isNone_none, Option.isSome_some, Option.isNone_some, Bool.true_or, Bool.false_or, List.take_succ_cons, List.take_zero, List.drop_succ_cons, List.drop_zero, List.cons_append, List.nil_append, List.drop_nil, List.all_cons, List.all_nil, Bool.true_and, Kd.isRo, List.size_toArray, List.toList_toArray, bldV, Nat.reduceLeDiff, Int.reduceMul, Int.reduceAdd, Int.reduceSub, Int.reduceToNat, maxLen_eq, zeros_one, appS_some, appV_n, appV_v, appH_t, appH_f, Kd.isEx, Bool.false_and, partV, Nat.add_zero, Int.toNat_natCast, hz1, hz2]) | (with_reducible refine condK_dec (fun _ => ?_) (fun _ => ?_)) | (with_reducible refine grd_dec (fun _ => ?_) (fun _ => ?_)) | (with_reducible refine egrd_dec (fun _ => ?_) (fun _ => ?_)))
  obtain ⟨K1, hK1⟩ : ∃ K1, K1 = ((((H.new (.cells [.slice p ws.length c, .int .i64 (tn : Int)] 24 .ex)).new (.cells [.slice p' ws.length c', .int .i64 (tm : Int)] 24 .ex)).new (.cells (fnI tn fun _ => 0) 3 .ex)).new (.cells (fnI tm fun _ => 0) 3 .ex)) := ⟨_, rfl⟩
  have hn1 : K1.nx = H.nx + 4 := by rw [hK1]; rfl
  have hold1 : ∀ x, x < H.nx → K1.ob x = H.ob x := fun x hx => by rw [hK1, new_get, if_neg (by first | omega | (simp only [new_nx, set_nx]; omega)), new_get, if_neg (by first | omega | (simp only [new_nx, set_nx]; omega)), new_get, if_neg (by first | omega | (simp only [new_nx, set_nx]; omega)), new_get, if_neg (by omega)]
  have ma1 : K1.ob H.nx = .cells [.slice p ws.length c, .int .i64 (tn : Int)] 24 .ex := by rw [hK1, new_get, if_neg (by first | omega | (simp only [new_nx, set_nx]; omega)), new_get, if_neg (by first | omega | (simp only [new_nx, set_nx]; omega)), new_get, if_neg (by first | omega | (simp only [new_nx, set_nx]; omega))]; exact new_get.trans (if_pos rfl)
  have mb1 : K1.ob (H.nx + 1) = .cells [.slice p' ws.length c', .int .i64 (tm : Int)] 24 .ex := by rw [hK1, new_get, if_neg (by first | omega | (simp only [new_nx, set_nx]; omega)), new_get, if_neg (by first | omega | (simp only [new_nx, set_nx]; omega))]; exact new_get.trans (if_pos rfl)
  have bt1 : K1.ob (H.nx + 2) = .cells (fnI tn fun _ => 0) 3 .ex := by rw [hK1, new_get, if_neg (by first | omega | (simp only [new_nx, set_nx]; omega))]; exact new_get.trans (if_pos rfl)
  have bb1 : K1.ob (H.nx + 3) = .cells (fnI tm fun _ => 0) 3 .ex := by rw [hK1]; exact new_get.trans (if_pos rfl)
  rw [← hK1]
  have hA1 : AI ws roots tn tm ls (fun _ => 0) (fun _ => 0) [] [] := ⟨fun a h => (by cases h), fun _ _ _ => rfl, fun _ _ _ => rfl, .nil, fun a h => (by cases h), fun a h => (by cases h), Nat.le_refl _⟩
  refine loop_w (fun m fr K => ∃ (i : Nat) (tv : Value) (th bk : Nat → Int) (S st : List Nat), m = roots.length - i ∧ i ≤ roots.length ∧ fr 12 = .int .i64 (i : Int) ∧ fr 11 = tv ∧ H.nx + 4 ≤ K.nx ∧ (∀ x, x < H.nx + 2 → K.ob x = K1.ob x) ∧ K.ob (H.nx + 2) = .cells (fnI tn th) 3 .ex ∧ K.ob (H.nx + 3) = .cells (fnI tm bk) 3 .ex ∧ AI ws roots tn tm ls th bk S st ∧ TdP ws roots ls (H.nx + 4) K tv st) (n := roots.length)
    ⟨0, _, _, _, [], [], rfl, Nat.zero_le _, by (repeat' (first | (simp (disch := first | omega | (decide +kernel) | (repeat (first | assumption | exact HExt.refl _ | (refine HExt.set ?_ (by first | omega | (simp only [new_nx, set_nx]; omega)) _) | (refine HExt.new ?_ _)))) only [↓RD, RU, accW_t, accW_f, isW, ↓putF_get, ↓putF_none, ↓evF_t, ↓evF_c, ↓evF_f, new_nx, set_nx, new_get, set_get, getD_zero, getD_succ, u_not, pop, lop, aop, wop, resL, resV, tupleV, akV, isVal, isCell, Value.cells, List.map_cons, List.map_nil, Bool.not_true, Bool.not_false, Option.map_some, ↓reduceIte, Nat.reduceEqDiff, Nat.reduceAdd, Int.reduceOfNat, Int.reduceNegSucc, reduceCtorEq, List.getElem?_cons_zero, List.getElem?_cons_succ, List.length_cons, List.length_nil, srcR_c, src_n, src_v, src_s, bnd, lenV, capV, Option.isSome_none, Option.isNone_none, Option.isSome_some, Option.isNone_some, Bool.true_or, Bool.false_or, List.take_succ_cons, List.take_zero, List.drop_succ_cons, List.drop_zero, List.cons_append, List.nil_append, List.drop_nil, List.all_cons, List.all_nil, Bool.true_and, Kd.isRo, List.size_toArray, List.toList_toArray, bldV, Nat.reduceLeDiff, Int.reduceMul, Int.reduceAdd, Int.reduceSub, Int.reduceToNat, maxLen_eq, zeros_one, appS_some, appV_n, appV_v, appH_t, appH_f, Kd.isEx, Bool.false_and, partV, Nat.add_zero, Int.toNat_natCast]) | (with_reducible refine condK_dec (fun _ => ?_) (fun _ => ?_)) | (with_reducible refine grd_dec (fun _ => ?_) (fun _ => ?_)) | (with_reducible refine egrd_dec (fun _ => ?_) (fun _ => ?_)))); all_goals rfl, by (repeat' (first | (simp (disch := first | omega | (decide +kernel) | (repeat (first | assumption | exact HExt.refl _ | (refine HExt.set ?_ (by first | omega | (simp only [new_nx, set_nx]; omega)) _) | (refine HExt.new ?_ _)))) only [↓RD, RU, accW_t, accW_f, isW, ↓putF_get, ↓putF_none, ↓evF_t, ↓evF_c, ↓evF_f, new_nx, set_nx, new_get, set_get, getD_zero, getD_succ, u_not, pop, lop, aop, wop, resL, resV, tupleV, akV, isVal, isCell, Value.cells, List.map_cons, List.map_nil, Bool.not_true, Bool.not_false, Option.map_some, ↓reduceIte, Nat.reduceEqDiff, Nat.reduceAdd, Int.reduceOfNat, Int.reduceNegSucc, reduceCtorEq, List.getElem?_cons_zero, List.getElem?_cons_succ, List.length_cons, List.length_nil, srcR_c, src_n, src_v, src_s, bnd, lenV, capV, Option.isSome_none, Option.isNone_none, Option.isSome_some, Option.isNone_some, Bool.true_or, Bool.false_or, List.take_succ_cons, List.take_zero, List.drop_succ_cons, List.drop_zero, List.cons_append, List.nil_append, List.drop_nil, List.all_cons, List.all_nil, Bool.true_and, Kd.isRo, List.size_toArray, List.toList_toArray, bldV, Nat.reduceLeDiff, Int.reduceMul, Int.reduceAdd, Int.reduceSub, Int.reduceToNat, maxLen_eq, zeros_one, appS_some, appV_n, appV_v, appH_t, appH_f, Kd.isEx, Bool.false_and, partV, Nat.add_zero, Int.toNat_natCast]) | (with_reducible refine condK_dec (fun _ => ?_) (fun _ => ?_)) | (with_reducible refine grd_dec (fun _ => ?_) (fun _ => ?_)) | (with_reducible refine egrd_dec (fun _ => ?_) (fun _ => ?_)))); all_goals rfl, by omega, fun _ _ => rfl, bt1, bb1, hA1, .inl ⟨rfl, rfl⟩⟩ ?_
  rintro m fr K ⟨i, tv, th, bk, S, st, rfl, hi, f12, f11, hnK, hoK, hbt, hbb, hA, hT⟩ hag
  have hEK : HExt H K := ⟨by omega, fun x hx => (hoK x (by omega)).trans (hold1 x hx)⟩
  have hrow : ∀ (tv : Value) (K : CH) (st : List Nat), TdP ws roots ls (H.nx + 4) K tv st → ∀ y, y < H.nx + 4 → ∀ o n c, tv ≠ .slice (some ⟨y, o, none⟩) n c := fun tv K st hT y hy o n c e => by
    rcases hT with ⟨_, h⟩ | ⟨x, c', cs, h, hl, _⟩
    · rw [h] at e; cases e
    · rw [h] at e; cases e; omega
  by_cases hil : i < roots.length
  case pos =>
    obtain ⟨l1, o1, os1, e1, kd1, rfl, hl1, hc1, hm1, hob1, hol1, hos1, hwf1⟩ := (hrs.good (CInt.good _) hEK).ints (by omega)
    obtain ⟨l2, o2, os2, e2, kd2, rfl, hl2, hc2, hm2, hob2, hol2, hos2, hwf2⟩ := (hrs'.good (CInt.good _) hEK).ints (by simp; omega)
    have hg1 := hos1 i hil
    have hg2 := hos2 i (by simp; omega)
    obtain ⟨w, hw'⟩ : ∃ w, roots.getD i 0 = w := ⟨_, rfl⟩
    have hrw : roots[i]? = some w := by rw [← hw', List.getD_eq_getElem?_getD, List.getElem?_eq_getElem hil]; rfl
    have hrw2 : (roots.map (turnF ws roots ls)).getD i 0 = turnF ws roots ls w := by rw [List.getD_eq_getElem?_getD, List.getElem?_map, hrw]; rfl
    rw [hw'] at hg1
    rw [hrw2] at hg2
    have hwm : w ∈ roots := List.mem_of_getElem? hrw
    have hwi := hur w hwm
    have hkw := hr w hwm
    repeat' (first | (simp (disch := first | omega | (decide +kernel) | (repeat (first | assumption | exact HExt.refl _ | (refine HExt.set ?_ (by first | omega | (simp only [new_nx, set_nx]; omega)) _) | (refine HExt.new ?_ _)))) only [↓RD, RU, accW_t, accW_f, isW, ↓putF_get, ↓putF_none, ↓evF_t, ↓evF_c, ↓evF_f, new_nx, set_nx, new_get, set_get, getD_zero, getD_succ, u_not, pop, lop, aop, wop, resL, resV, tupleV, akV, isVal, isCell, Value.cells, List.map_cons, List.map_nil, Bool.not_true, Bool.not_false, Option.map_some, ↓reduceIte, Nat.reduceEqDiff, Nat.reduceAdd, Int.reduceOfNat, Int.reduceNegSucc, reduceCtorEq, List.getElem?_cons_zero, List.getElem?_cons_succ, List.length_cons, List.length_nil, srcR_c, src_n, src_v, src_s, bnd, lenV, capV, Option.isSome_none, Option.isNone_none, Option.isSome_some, Option.isNone_some, Bool.true_or, Bool.false_or, List.take_succ_cons, List.take_zero, List.drop_succ_cons, List.drop_zero, List.cons_append, List.nil_append, List.drop_nil, List.all_cons, List.all_nil, Bool.true_and, Kd.isRo, List.size_toArray, List.toList_toArray, bldV, Nat.reduceLeDiff, Int.reduceMul, Int.reduceAdd, Int.reduceSub, Int.reduceToNat, maxLen_eq, zeros_one, appS_some, appV_n, appV_v, appH_t, appH_f, Kd.isEx, Bool.false_and, partV, Nat.add_zero, Int.toNat_natCast, f12, f11, hag, hob1, hg1, hob2, hg2]) | (with_reducible refine condK_dec (fun _ => ?_) (fun _ => ?_)) | (with_reducible refine grd_dec (fun _ => ?_) (fun _ => ?_)) | (with_reducible refine egrd_dec (fun _ => ?_) (fun _ => ?_)))
    refine (match_wp (lo := H.nx + 4) hF htm.symm hA hT hbt hbb (by omega) (by omega) hnK (by omega) hwi.1 hwi.2 hkw.1 fun h0 => ⟨hkw.2 h0, .root hwm h0⟩).mono fun v K' ⟨tv', th', bk', S', st', hv, j1, j2, j3, j4, j5, j6, j7, j8⟩ => ?_
    subst hv
    repeat' (first | (simp (disch := first | omega | (decide +kernel) | (repeat (first | assumption | exact HExt.refl _ | (refine HExt.set ?_ (by first | omega | (simp only [new_nx, set_nx]; omega)) _) | (refine HExt.new ?_ _)))) only [↓RD, RU, accW_t, accW_f, isW, ↓putF_get, ↓putF_none, ↓evF_t, ↓evF_c, ↓evF_f, new_nx, set_nx, new_get, set_get, getD_zero, getD_succ, u_not, pop, lop, aop, wop, resL, resV, tupleV, akV, isVal, isCell, Value.cells, List.map_cons, List.map_nil, Bool.not_true, Bool.not_false, Option.map_some, ↓reduceIte, Nat.reduceEqDiff, Nat.reduceAdd, Int.reduceOfNat, Int.reduceNegSucc, reduceCtorEq, List.getElem?_cons_zero, List.getElem?_cons_succ, List.length_cons, List.length_nil, srcR_c, src_n, src_v, src_s, bnd, lenV, capV, Option.isSome_none, Option.isNone_none, Option.isSome_some, Option.isNone_some, Bool.true_or, Bool.false_or, List.take_succ_cons, List.take_zero, List.drop_succ_cons, List.drop_zero, List.cons_append, List.nil_append, List.drop_nil, List.all_cons, List.all_nil, Bool.true_and, Kd.isRo, List.size_toArray, List.toList_toArray, bldV, Nat.reduceLeDiff, Int.reduceMul, Int.reduceAdd, Int.reduceSub, Int.reduceToNat, maxLen_eq, zeros_one, appS_some, appV_n, appV_v, appH_t, appH_f, Kd.isEx, Bool.false_and, partV, Nat.add_zero, Int.toNat_natCast, f12, hag]) | (with_reducible refine condK_dec (fun _ => ?_) (fun _ => ?_)) | (with_reducible refine grd_dec (fun _ => ?_) (fun _ => ?_)) | (with_reducible refine egrd_dec (fun _ => ?_) (fun _ => ?_)))
    exact ⟨_, by omega, i + 1, tv', th', bk', S', st', rfl, by omega, rfl, rfl, by omega, fun x hx => (j7 x (by omega) (by omega) (by omega) (hrow tv K st hT x (by omega))).trans (hoK x hx), j2, j3, j4, j5⟩
  case neg =>
  repeat' (first | (simp (disch := first | omega | (decide +kernel) | (repeat (first | assumption | exact HExt.refl _ | (refine HExt.set ?_ (by first | omega | (simp only [new_nx, set_nx]; omega)) _) | (refine HExt.new ?_ _)))) only [↓RD, RU, accW_t, accW_f, isW, ↓putF_get, ↓putF_none, ↓evF_t, ↓evF_c, ↓evF_f, new_nx, set_nx, new_get, set_get, getD_zero, getD_succ, u_not, pop, lop, aop, wop, resL, resV, tupleV, akV, isVal, isCell, Value.cells, List.map_cons, List.map_nil, Bool.not_true, Bool.not_false, Option.map_some, ↓reduceIte, Nat.reduceEqDiff, Nat.reduceAdd, Int.reduceOfNat, Int.reduceNegSucc, reduceCtorEq, List.getElem?_cons_zero, List.getElem?_cons_succ, List.length_cons, List.length_nil, srcR_c, src_n, src_v, src_s, bnd, lenV, capV, Option.isSome_none, Option.isNone_none, Option.isSome_some, Option.isNone_some, Bool.true_or, Bool.false_or, List.take_succ_cons, List.take_zero, List.drop_succ_cons, List.drop_zero, List.cons_append, List.nil_append, List.drop_nil, List.all_cons, List.all_nil, Bool.true_and, Kd.isRo, List.size_toArray, List.toList_toArray, bldV, Nat.reduceLeDiff, Int.reduceMul, Int.reduceAdd, Int.reduceSub, Int.reduceToNat, maxLen_eq, zeros_one, appS_some, appV_n, appV_v, appH_t, appH_f, Kd.isEx, Bool.false_and, partV, Nat.add_zero, Int.toNat_natCast, f12, f11, hag]) | (with_reducible refine condK_dec (fun _ => ?_) (fun _ => ?_)) | (with_reducible refine grd_dec (fun _ => ?_) (fun _ => ?_)) | (with_reducible refine egrd_dec (fun _ => ?_) (fun _ => ?_)))
  refine loop_w (fun m fr K2 => ∃ (tv : Value) (th bk : Nat → Int) (S st : List Nat), m = 2 * (ls.length - S.length) + st.length ∧ fr 11 = tv ∧ H.nx + 4 ≤ K2.nx ∧ (∀ x, x < H.nx + 2 → K2.ob x = K1.ob x) ∧ K2.ob (H.nx + 2) = .cells (fnI tn th) 3 .ex ∧ K2.ob (H.nx + 3) = .cells (fnI tm bk) 3 .ex ∧ AI ws roots tn tm ls th bk S st ∧ TdP ws roots ls (H.nx + 4) K2 tv st) (n := 2 * (ls.length - S.length) + st.length)
    ⟨tv, th, bk, S, st, rfl, by repeat' (first | (simp (disch := first | omega | (decide +kernel) | (repeat (first | assumption | exact HExt.refl _ | (refine HExt.set ?_ (by first | omega | (simp only [new_nx, set_nx]; omega)) _) | (refine HExt.new ?_ _)))) only [↓RD, RU, accW_t, accW_f, isW, ↓putF_get, ↓putF_none, ↓evF_t, ↓evF_c, ↓evF_f, new_nx, set_nx, new_get, set_get, getD_zero, getD_succ, u_not, pop, lop, aop, wop, resL, resV, tupleV, akV, isVal, isCell, Value.cells, List.map_cons, List.map_nil, Bool.not_true, Bool.not_false, Option.map_some, ↓reduceIte, Nat.reduceEqDiff, Nat.reduceAdd, Int.reduceOfNat, Int.reduceNegSucc, reduceCtorEq, List.getElem?_cons_zero, List.getElem?_cons_succ, List.length_cons, List.length_nil, srcR_c, src_n, src_v, src_s, bnd, lenV, capV, Option.isSome_none, Option.isNone_none, Option.isSome_some, Option.isNone_some, Bool.true_or, Bool.false_or, List.take_succ_cons, List.take_zero, List.drop_succ_cons, List.drop_zero, List.cons_append, List.nil_append, List.drop_nil, List.all_cons, List.all_nil, Bool.true_and, Kd.isRo, List.size_toArray, List.toList_toArray, bldV, Nat.reduceLeDiff, Int.reduceMul, Int.reduceAdd, Int.reduceSub, Int.reduceToNat, maxLen_eq, zeros_one, appS_some, appV_n, appV_v, appH_t, appH_f, Kd.isEx, Bool.false_and, partV, Nat.add_zero, Int.toNat_natCast, f11]) | (with_reducible refine condK_dec (fun _ => ?_) (fun _ => ?_)) | (with_reducible refine grd_dec (fun _ => ?_) (fun _ => ?_)) | (with_reducible refine egrd_dec (fun _ => ?_) (fun _ => ?_))), hnK, hoK, hbt, hbb, hA, hT⟩ ?_
  clear hEK hA hT hbt hbb hoK hnK f11 tv th bk S st
  rintro m fr2 K2 ⟨tv, th, bk, S, st, rfl, f11, hn2, ho2, hbt, hbb, hA, hT⟩ hag2
  have hE2 : HExt H K2 := ⟨by omega, fun x hx => (ho2 x (by omega)).trans (hold1 x hx)⟩
  rcases List.eq_nil_or_concat st with rfl | ⟨st1, a, rfl⟩
  · rcases hT with ⟨_, rfl⟩ | ⟨x, c9, cs, rfl, _⟩
    · repeat' (first | (simp (disch := first | omega | (decide +kernel) | (repeat (first | assumption | exact HExt.refl _ | (refine HExt.set ?_ (by first | omega | (simp only [new_nx, set_nx]; omega)) _) | (refine HExt.new ?_ _)))) only [↓RD, RU, accW_t, accW_f, isW, ↓putF_get, ↓putF_none, ↓evF_t, ↓evF_c, ↓evF_f, new_nx, set_nx, new_get, set_get, getD_zero, getD_succ, u_not, pop, lop, aop, wop, resL, resV, tupleV, akV, isVal, isCell, Value.cells, List.map_cons, List.map_nil, Bool.not_true, Bool.not_false, Option.map_some, ↓reduceIte, Nat.reduceEqDiff, Nat.reduceAdd, Int.reduceOfNat, Int.reduceNegSucc, reduceCtorEq, List.getElem?_cons_zero, List.getElem?_cons_succ, List.length_cons, List.length_nil, srcR_c, src_n, src_v, src_s, bnd, lenV, capV, Option.isSome_none, Option.isNone_none, Option.isSome_some, Option.isNone_some, Bool.true_or, Bool.false_or, List.take_succ_cons, List.take_zero, List.drop_succ_cons, List.drop_zero, List.cons_append, List.nil_append, List.drop_nil, List.all_cons, List.all_nil, Bool.true_and, Kd.isRo, List.size_toArray, List.toList_toArray, bldV, Nat.reduceLeDiff, Int.reduceMul, Int.reduceAdd, Int.reduceSub, Int.reduceToNat, maxLen_eq, zeros_one, appS_some, appV_n, appV_v, appH_t, appH_f, Kd.isEx, Bool.false_and, partV, Nat.add_zero, Int.toNat_natCast, f11, hag2]) | (with_reducible refine condK_dec (fun _ => ?_) (fun _ => ?_)) | (with_reducible refine grd_dec (fun _ => ?_) (fun _ => ?_)) | (with_reducible refine egrd_dec (fun _ => ?_) (fun _ => ?_)))
      all_goals first | exact hE2 | exact ⟨rfl, hE2⟩
    · repeat' (first | (simp (disch := first | omega | (decide +kernel) | (repeat (first | assumption | exact HExt.refl _ | (refine HExt.set ?_ (by first | omega | (simp only [new_nx, set_nx]; omega)) _) | (refine HExt.new ?_ _)))) only [↓RD, RU, accW_t, accW_f, isW, ↓putF_get, ↓putF_none, ↓evF_t, ↓evF_c, ↓evF_f, new_nx, set_nx, new_get, set_get, getD_zero, getD_succ, u_not, pop, lop, aop, wop, resL, resV, tupleV, akV, isVal, isCell, Value.cells, List.map_cons, List.map_nil, Bool.not_true, Bool.not_false, Option.map_some, ↓reduceIte, Nat.reduceEqDiff, Nat.reduceAdd, Int.reduceOfNat, Int.reduceNegSucc, reduceCtorEq, List.getElem?_cons_zero, List.getElem?_cons_succ, List.length_cons, List.length_nil, srcR_c, src_n, src_v, src_s, bnd, lenV, capV, Option.isSome_none, Option.isNone_none, Option.isSome_some, Option.isNone_some, Bool.true_or, Bool.false_or, List.take_succ_cons, List.take_zero, List.drop_succ_cons, List.drop_zero, List.cons_append, List.nil_append, List.drop_nil, List.all_cons, List.all_nil, Bool.true_and, Kd.isRo, List.size_toArray, List.toList_toArray, bldV, Nat.reduceLeDiff, Int.reduceMul, Int.reduceAdd, Int.reduceSub, Int.reduceToNat, maxLen_eq, zeros_one, appS_some, appV_n, appV_v, appH_t, appH_f, Kd.isEx, Bool.false_and, partV, Nat.add_zero, Int.toNat_natCast, f11, hag2]) | (with_reducible refine condK_dec (fun _ => ?_) (fun _ => ?_)) | (with_reducible refine grd_dec (fun _ => ?_) (fun _ => ?_)) | (with_reducible refine egrd_dec (fun _ => ?_) (fun _ => ?_)))
      all_goals first | exact hE2 | exact ⟨rfl, hE2⟩
  rw [List.concat_eq_append] at hA hT ⊢
  obtain ⟨x, cx, cs, rfl, t1, t2, t3, t4, t5, t6, hT1⟩ := tdp_top hT
  have haS := hA.sub a (by simp)
  obtain ⟨hm, hrc⟩ := hA.rc a haS
  have hbd := obj_lt2 hF hm
  have hsz := isObj_sz (hF.ob a hm)
  have hnl : nto ws roots ls a ∈ newL ws roots ls := mem_new.2 ⟨a, hm, hrc, rfl⟩
  have hnb := nto_lt (roots := roots) hF hm
  have hma2 := (ho2 H.nx (by omega)).trans ma1
  have hmb2 := (ho2 (H.nx + 1) (by omega)).trans mb1
  have hsl : sliceV 2 (.slice (some ⟨x, 0, none⟩) (st1.length + 1) cx) ((0 : Nat) : Int) (st1.length : Int) (cx : Int) false = some (.slice (some ⟨x, 0, none⟩) st1.length cx) := by
    rw [slice_all (by omega) (by omega) (by omega)]
    have q1 : ((st1.length : Int) - ((0 : Nat) : Int)).toNat = st1.length := by omega
    have q2 : ((cx : Int) - ((0 : Nat) : Int)).toNat = cx := by omega
    rw [q1, q2]; rfl
  have hstl := hA.stl
  have hSl := len_le hA.nd fun y hy => (hA.rc y hy).1
  simp only [List.length_append, List.length_cons, List.length_nil] at hstl
  have e1 : ((st1.length + 1 : Nat) : Int) - 1 = (st1.length : Int) := by omega
  obtain ⟨b, hb⟩ : ∃ b, nto ws roots ls a = b := ⟨_, rfl⟩
  rw [hb] at hnl hnb
  have t6' : List.take 2 (List.drop (st1.length * 2) cs) = [.int .i64 (a : Int), .int .i64 (b : Int)] := by
    rw [t6, ← hb]; rfl
  repeat' (first | (simp (disch := first | omega | (decide +kernel) | (repeat (first | assumption | exact HExt.refl _ | (refine HExt.set ?_ (by first | omega | (simp only [new_nx, set_nx]; omega)) _) | (refine HExt.new ?_ _)))) only [↓RD, RU, accW_t, accW_f, isW, ↓putF_get, ↓putF_none, ↓evF_t, ↓evF_c, ↓evF_f, new_nx, set_nx, new_get, set_get, getD_zero, getD_succ, u_not, pop, lop, aop, wop, resL, resV, tupleV, akV, isVal, isCell, Value.cells, List.map_cons, List.map_nil, Bool.not_true, Bool.not_false, Option.map_some, ↓reduceIte, Nat.reduceEqDiff, Nat.reduceAdd, Int.reduceOfNat, Int.reduceNegSucc, reduceCtorEq, List.getElem?_cons_zero, List.getElem?_cons_succ, List.length_cons, List.length_nil, srcR_c, src_n, src_v, src_s, bnd, lenV, capV, Option.isSome_none, Option.isNone_none, Option.isSome_some, Option.isNone_some, Bool.true_or, Bool.false_or, List.take_succ_cons, List.take_zero, List.drop_succ_cons, List.drop_zero, List.cons_append, List.nil_append, List.drop_nil, List.all_cons, List.all_nil, Bool.true_and, Kd.isRo, List.size_toArray, List.toList_toArray, bldV, Nat.reduceLeDiff, Int.reduceMul, Int.reduceAdd, Int.reduceSub, Int.reduceToNat, maxLen_eq, zeros_one, appS_some, appV_n, appV_v, appH_t, appH_f, Kd.isEx, Bool.false_and, partV, Nat.add_zero, Int.toNat_natCast, f11, hag2, t3, e1, t6']) | (with_reducible refine condK_dec (fun _ => ?_) (fun _ => ?_)) | (with_reducible refine grd_dec (fun _ => ?_) (fun _ => ?_)) | (with_reducible refine egrd_dec (fun _ => ?_) (fun _ => ?_)))
  obtain ⟨K3, hK3⟩ : ∃ K3, K3 = ((K2.new (.cells [.int .i64 0, .int .i64 0] 73 .ex)).set K2.nx (.cells [.int .i64 (a : Int), .int .i64 (b : Int)] 73 .ex)) := ⟨_, rfl⟩
  have hn3 : K3.nx = K2.nx + 1 := by rw [hK3]; rfl
  have ho3 : ∀ y, y < K2.nx → K3.ob y = K2.ob y := fun y hy => by rw [hK3, set_get, if_neg (by omega), new_get, if_neg (by omega)]
  have hp3 : K3.ob K2.nx = .cells [.int .i64 (a : Int), .int .i64 (b : Int)] 73 .ex := by rw [hK3, set_get, if_pos rfl]
  rw [← hK3]
  have hE3 : HExt H K3 := ⟨by omega, fun y hy => (ho3 y (by omega)).trans (hE2.ob y hy)⟩
  have hok := okSl_own (e := 73) (o := 0) (n := st1.length + 1) (c := cx) ((ho3 x t2).trans t3)
  have hma3 := (ho3 _ (by omega)).trans hma2
  repeat' (first | (simp (disch := first | omega | (decide +kernel) | (repeat (first | assumption | exact HExt.refl _ | (refine HExt.set ?_ (by first | omega | (simp only [new_nx, set_nx]; omega)) _) | (refine HExt.new ?_ _)))) only [↓RD, RU, accW_t, accW_f, isW, ↓putF_get, ↓putF_none, ↓evF_t, ↓evF_c, ↓evF_f, new_nx, set_nx, new_get, set_get, getD_zero, getD_succ, u_not, pop, lop, aop, wop, resL, resV, tupleV, akV, isVal, isCell, Value.cells, List.map_cons, List.map_nil, Bool.not_true, Bool.not_false, Option.map_some, ↓reduceIte, Nat.reduceEqDiff, Nat.reduceAdd, Int.reduceOfNat, Int.reduceNegSucc, reduceCtorEq, List.getElem?_cons_zero, List.getElem?_cons_succ, List.length_cons, List.length_nil, srcR_c, src_n, src_v, src_s, bnd, lenV, capV, Option.isSome_none, Option.isNone_none, Option.isSome_some, Option.isNone_some, Bool.true_or, Bool.false_or, List.take_succ_cons, List.take_zero, List.drop_succ_cons, List.drop_zero, List.cons_append, List.nil_append, List.drop_nil, List.all_cons, List.all_nil, Bool.true_and, Kd.isRo, List.size_toArray, List.toList_toArray, bldV, Nat.reduceLeDiff, Int.reduceMul, Int.reduceAdd, Int.reduceSub, Int.reduceToNat, maxLen_eq, zeros_one, appS_some, appV_n, appV_v, appH_t, appH_f, Kd.isEx, Bool.false_and, partV, Nat.add_zero, Int.toNat_natCast, hsl, hok, hag2, hag, hma3, hp3]) | (with_reducible refine condK_dec (fun _ => ?_) (fun _ => ?_)) | (with_reducible refine grd_dec (fun _ => ?_) (fun _ => ?_)) | (with_reducible refine egrd_dec (fun _ => ?_) (fun _ => ?_)))
  refine (rat_obj (hw.good hE3) hF hm).mono fun v K4 ⟨hv, hx4⟩ => ?_
  subst hv
  have hn4 := hx4.nx
  have hmb4 := (hx4.ob (H.nx + 1) (by omega)).trans ((ho3 _ (by omega)).trans hmb2)
  have hp4 := (hx4.ob K2.nx (by omega)).trans hp3
  obtain ⟨g, hg⟩ : ∃ g, tgN ws a = g := ⟨_, rfl⟩
  obtain ⟨s, hs⟩ : ∃ s, szN ws a = s := ⟨_, rfl⟩
  obtain ⟨kk, hkk⟩ : ∃ kk, hdK (wd ws a) = kk := ⟨_, rfl⟩
  rw [hg, hs, hkk]
  repeat' (first | (simp (disch := first | omega | (decide +kernel) | (repeat (first | assumption | exact HExt.refl _ | (refine HExt.set ?_ (by first | omega | (simp only [new_nx, set_nx]; omega)) _) | (refine HExt.new ?_ _)))) only [↓RD, RU, accW_t, accW_f, isW, ↓putF_get, ↓putF_none, ↓evF_t, ↓evF_c, ↓evF_f, new_nx, set_nx, new_get, set_get, getD_zero, getD_succ, u_not, pop, lop, aop, wop, resL, resV, tupleV, akV, isVal, isCell, Value.cells, List.map_cons, List.map_nil, Bool.not_true, Bool.not_false, Option.map_some, ↓reduceIte, Nat.reduceEqDiff, Nat.reduceAdd, Int.reduceOfNat, Int.reduceNegSucc, reduceCtorEq, List.getElem?_cons_zero, List.getElem?_cons_succ, List.length_cons, List.length_nil, srcR_c, src_n, src_v, src_s, bnd, lenV, capV, Option.isSome_none, Option.isNone_none, Option.isSome_some, Option.isNone_some, Bool.true_or, Bool.false_or, List.take_succ_cons, List.take_zero, List.drop_succ_cons, List.drop_zero, List.cons_append, List.nil_append, List.drop_nil, List.all_cons, List.all_nil, Bool.true_and, Kd.isRo, List.size_toArray, List.toList_toArray, bldV, Nat.reduceLeDiff, Int.reduceMul, Int.reduceAdd, Int.reduceSub, Int.reduceToNat, maxLen_eq, zeros_one, appS_some, appV_n, appV_v, appH_t, appH_f, Kd.isEx, Bool.false_and, partV, Nat.add_zero, Int.toNat_natCast, hag2, hag, hmb4, hp4]) | (with_reducible refine condK_dec (fun _ => ?_) (fun _ => ?_)) | (with_reducible refine grd_dec (fun _ => ?_) (fun _ => ?_)) | (with_reducible refine egrd_dec (fun _ => ?_) (fun _ => ?_)))
  obtain ⟨K5, hK5⟩ : ∃ K5, K5 = ((K4.new (.cells [.int .i64 0, .int .i64 0, .int .i64 0] 64 .ex)).set K4.nx (.cells [.int .i64 kk, .int .i64 (g : Int), .int .i64 (s : Int)] 64 .ex)) := ⟨_, rfl⟩
  have hn5 : K5.nx = K4.nx + 1 := by rw [hK5]; rfl
  have ho5 : ∀ y, y < K4.nx → K5.ob y = K4.ob y := fun y hy => by rw [hK5, set_get, if_neg (by omega), new_get, if_neg (by omega)]
  have hx5 : K5.ob K4.nx = .cells [.int .i64 kk, .int .i64 (g : Int), .int .i64 (s : Int)] 64 .ex := by rw [hK5, set_get, if_pos rfl]
  rw [← hK5]
  have hE5 : HExt H K5 := ⟨by omega, fun y hy => (ho5 y (by omega)).trans ((hx4.ob y (by omega)).trans (hE3.ob y hy))⟩
  have hmb5 := (ho5 _ (by omega)).trans hmb4
  have hp5 := (ho5 _ (by omega)).trans hp4
  have hro := rat_obj (hw'.good hE5) hNF hnl
  have hnh := new_head (roots := roots) hF hm hrc
  have hns := new_sz (roots := roots) hF hm hrc
  rw [hb] at hnh hns
  rw [hcw, hnh, hns.1, hns.2, hg, hs, hkk] at hro
  refine hro.mono fun v K6 ⟨hv, hx6⟩ => ?_
  subst hv
  have hn6 := hx6.nx
  have hx6' := (hx6.ob _ (by omega)).trans hx5
  repeat' (first | (simp (disch := first | omega | (decide +kernel) | (repeat (first | assumption | exact HExt.refl _ | (refine HExt.set ?_ (by first | omega | (simp only [new_nx, set_nx]; omega)) _) | (refine HExt.new ?_ _)))) only [↓RD, RU, accW_t, accW_f, isW, ↓putF_get, ↓putF_none, ↓evF_t, ↓evF_c, ↓evF_f, new_nx, set_nx, new_get, set_get, getD_zero, getD_succ, u_not, pop, lop, aop, wop, resL, resV, tupleV, akV, isVal, isCell, Value.cells, List.map_cons, List.map_nil, Bool.not_true, Bool.not_false, Option.map_some, ↓reduceIte, Nat.reduceEqDiff, Nat.reduceAdd, Int.reduceOfNat, Int.reduceNegSucc, reduceCtorEq, List.getElem?_cons_zero, List.getElem?_cons_succ, List.length_cons, List.length_nil, srcR_c, src_n, src_v, src_s, bnd, lenV, capV, Option.isSome_none, Option.isNone_none, Option.isSome_some, Option.isNone_some, Bool.true_or, Bool.false_or, List.take_succ_cons, List.take_zero, List.drop_succ_cons, List.drop_zero, List.cons_append, List.nil_append, List.drop_nil, List.all_cons, List.all_nil, Bool.true_and, Kd.isRo, List.size_toArray, List.toList_toArray, bldV, Nat.reduceLeDiff, Int.reduceMul, Int.reduceAdd, Int.reduceSub, Int.reduceToNat, maxLen_eq, zeros_one, appS_some, appV_n, appV_v, appH_t, appH_f, Kd.isEx, Bool.false_and, partV, Nat.add_zero, Int.toNat_natCast, hag2, hag, hx6', gok_o, gks_o, eqAll_i, eqAll, Bool.not_true]) | (with_reducible refine condK_dec (fun _ => ?_) (fun _ => ?_)) | (with_reducible refine grd_dec (fun _ => ?_) (fun _ => ?_)) | (with_reducible refine egrd_dec (fun _ => ?_) (fun _ => ?_)))
  obtain ⟨K7, hK7⟩ : ∃ K7, K7 = ((K6.new (.cells [.int .i64 0, .int .i64 0, .int .i64 0] 64 .ex)).set K6.nx (.cells [.int .i64 kk, .int .i64 (g : Int), .int .i64 (s : Int)] 64 .ex)) := ⟨_, rfl⟩
  have hn7 : K7.nx = K6.nx + 1 := by rw [hK7]; rfl
  have ho7 : ∀ y, y < K6.nx → K7.ob y = K6.ob y := fun y hy => by rw [hK7, set_get, if_neg (by omega), new_get, if_neg (by omega)]
  have hy7 : K7.ob K6.nx = .cells [.int .i64 kk, .int .i64 (g : Int), .int .i64 (s : Int)] 64 .ex := by rw [hK7, set_get, if_pos rfl]
  rw [← hK7]
  have hx7 := (ho7 _ (by omega)).trans ((hx6.ob _ (by omega)).trans hx5)
  have hp7 := (ho7 _ (by omega)).trans ((hx6.ob _ (by omega)).trans hp5)
  have hl7 : ∀ y, y < K2.nx → K7.ob y = K2.ob y := fun y hy => (ho7 y (by omega)).trans ((hx6.ob y (by omega)).trans ((ho5 y (by omega)).trans ((hx4.ob y (by omega)).trans (ho3 y hy))))
  obtain ⟨f4, hf4⟩ : ∃ f4, f4 = fr2 := ⟨_, rfl⟩
  have hA0 : AI ws roots tn tm ls th bk S st1 := ⟨hA.yes, hA.no, hA.nob, hA.nd, hA.rc, fun y hy => hA.sub y (List.mem_append_left _ hy), by omega⟩
  have hT7 : TdP ws roots ls (H.nx + 4) K7 (.slice (some ⟨x, 0, none⟩) st1.length cx) st1 := hT1.mv (by omega) fun y _ hy _ => hl7 y hy
  refine loop_w (fun m fr K => ∃ (k : Nat) (tv : Value) (th bk : Nat → Int) (S' st' : List Nat), m = (s - 2) - k ∧ k ≤ s - 2 ∧ fr 20 = .int .i64 (k : Int) ∧ fr 11 = tv ∧ K7.nx ≤ K.nx ∧ (∀ y, y < K7.nx → y ≠ H.nx + 2 → y ≠ H.nx + 3 → y ≠ x → K.ob y = K7.ob y) ∧ K.ob (H.nx + 2) = .cells (fnI tn th) 3 .ex ∧ K.ob (H.nx + 3) = .cells (fnI tm bk) 3 .ex ∧ AI ws roots tn tm ls th bk S' st' ∧ TdP ws roots ls (H.nx + 4) K tv st' ∧ 2 * (ls.length - S'.length) + st'.length ≤ 2 * (ls.length - S.length) + st1.length ∧ ∀ y o n c, tv = .slice (some ⟨y, o, none⟩) n c → y = x ∨ K7.nx ≤ y) (n := s - 2)
    ⟨0, _, _, _, S, st1, rfl, Nat.zero_le _, by (repeat' (first | (simp (disch := first | omega | (decide +kernel) | (repeat (first | assumption | exact HExt.refl _ | (refine HExt.set ?_ (by first | omega | (simp only [new_nx, set_nx]; omega)) _) | (refine HExt.new ?_ _)))) only [↓RD, RU, accW_t, accW_f, isW, ↓putF_get, ↓putF_none, ↓evF_t, ↓evF_c, ↓evF_f, new_nx, set_nx, new_get, set_get, getD_zero, getD_succ, u_not, pop, lop, aop, wop, resL, resV, tupleV, akV, isVal, isCell, Value.cells, List.map_cons, List.map_nil, Bool.not_true, Bool.not_false, Option.map_some, ↓reduceIte, Nat.reduceEqDiff, Nat.reduceAdd, Int.reduceOfNat, Int.reduceNegSucc, reduceCtorEq, List.getElem?_cons_zero, List.getElem?_cons_succ, List.length_cons, List.length_nil, srcR_c, src_n, src_v, src_s, bnd, lenV, capV, Option.isSome_none, Option.isNone_none, Option.isSome_some, Option.isNone_some, Bool.true_or, Bool.false_or, List.take_succ_cons, List.take_zero, List.drop_succ_cons, List.drop_zero, List.cons_append, List.nil_append, List.drop_nil, List.all_cons, List.all_nil, Bool.true_and, Kd.isRo, List.size_toArray, List.toList_toArray, bldV, Nat.reduceLeDiff, Int.reduceMul, Int.reduceAdd, Int.reduceSub, Int.reduceToNat, maxLen_eq, zeros_one, appS_some, appV_n, appV_v, appH_t, appH_f, Kd.isEx, Bool.false_and, partV, Nat.add_zero, Int.toNat_natCast]) | (with_reducible refine condK_dec (fun _ => ?_) (fun _ => ?_)) | (with_reducible refine grd_dec (fun _ => ?_) (fun _ => ?_)) | (with_reducible refine egrd_dec (fun _ => ?_) (fun _ => ?_)))); all_goals rfl, by (repeat' (first | (simp (disch := first | omega | (decide +kernel) | (repeat (first | assumption | exact HExt.refl _ | (refine HExt.set ?_ (by first | omega | (simp only [new_nx, set_nx]; omega)) _) | (refine HExt.new ?_ _)))) only [↓RD, RU, accW_t, accW_f, isW, ↓putF_get, ↓putF_none, ↓evF_t, ↓evF_c, ↓evF_f, new_nx, set_nx, new_get, set_get, getD_zero, getD_succ, u_not, pop, lop, aop, wop, resL, resV, tupleV, akV, isVal, isCell, Value.cells, List.map_cons, List.map_nil, Bool.not_true, Bool.not_false, Option.map_some, ↓reduceIte, Nat.reduceEqDiff, Nat.reduceAdd, Int.reduceOfNat, Int.reduceNegSucc, reduceCtorEq, List.getElem?_cons_zero, List.getElem?_cons_succ, List.length_cons, List.length_nil, srcR_c, src_n, src_v, src_s, bnd, lenV, capV, Option.isSome_none, Option.isNone_none, Option.isSome_some, Option.isNone_some, Bool.true_or, Bool.false_or, List.take_succ_cons, List.take_zero, List.drop_succ_cons, List.drop_zero, List.cons_append, List.nil_append, List.drop_nil, List.all_cons, List.all_nil, Bool.true_and, Kd.isRo, List.size_toArray, List.toList_toArray, bldV, Nat.reduceLeDiff, Int.reduceMul, Int.reduceAdd, Int.reduceSub, Int.reduceToNat, maxLen_eq, zeros_one, appS_some, appV_n, appV_v, appH_t, appH_f, Kd.isEx, Bool.false_and, partV, Nat.add_zero, Int.toNat_natCast]) | (with_reducible refine condK_dec (fun _ => ?_) (fun _ => ?_)) | (with_reducible refine grd_dec (fun _ => ?_) (fun _ => ?_)) | (with_reducible refine egrd_dec (fun _ => ?_) (fun _ => ?_)))); all_goals rfl, Nat.le_refl _, fun _ _ _ _ _ => rfl, (hl7 _ (by omega)).trans hbt, (hl7 _ (by omega)).trans hbb, hA0, hT7, Nat.le_refl _, fun y o n c e => .inl (by cases e; rfl)⟩ ?_
  rintro m fr3 K ⟨k, tv, th', bk', S', st', rfl, hk, f20, f11', hnK, hoK, hbt', hbb', hA', hT', hms, htv⟩ hag3
  have hxK := (hoK K4.nx (by omega) (by omega) (by omega) (by omega)).trans hx7
  have hyK := (hoK K6.nx (by omega) (by omega) (by omega) (by omega)).trans hy7
  have hpK := (hoK K2.nx (by omega) (by omega) (by omega) (by omega)).trans hp7
  by_cases hks : k < s - 2
  case neg =>
    have hke : k = s - 2 := by omega
    repeat' (first | (simp (disch := first | omega | (decide +kernel) | (repeat (first | assumption | exact HExt.refl _ | (refine HExt.set ?_ (by first | omega | (simp only [new_nx, set_nx]; omega)) _) | (refine HExt.new ?_ _)))) only [↓RD, RU, accW_t, accW_f, isW, ↓putF_get, ↓putF_none, ↓evF_t, ↓evF_c, ↓evF_f, new_nx, set_nx, new_get, set_get, getD_zero, getD_succ, u_not, pop, lop, aop, wop, resL, resV, tupleV, akV, isVal, isCell, Value.cells, List.map_cons, List.map_nil, Bool.not_true, Bool.not_false, Option.map_some, ↓reduceIte, Nat.reduceEqDiff, Nat.reduceAdd, Int.reduceOfNat, Int.reduceNegSucc, reduceCtorEq, List.getElem?_cons_zero, List.getElem?_cons_succ, List.length_cons, List.length_nil, srcR_c, src_n, src_v, src_s, bnd, lenV, capV, Option.isSome_none, Option.isNone_none, Option.isSome_some, Option.isNone_some, Bool.true_or, Bool.false_or, List.take_succ_cons, List.take_zero, List.drop_succ_cons, List.drop_zero, List.cons_append, List.nil_append, List.drop_nil, List.all_cons, List.all_nil, Bool.true_and, Kd.isRo, List.size_toArray, List.toList_toArray, bldV, Nat.reduceLeDiff, Int.reduceMul, Int.reduceAdd, Int.reduceSub, Int.reduceToNat, maxLen_eq, zeros_one, appS_some, appV_n, appV_v, appH_t, appH_f, Kd.isEx, Bool.false_and, partV, Nat.add_zero, Int.toNat_natCast, f20, hag3, hag2, hag, hxK]) | (with_reducible refine condK_dec (fun _ => ?_) (fun _ => ?_)) | (with_reducible refine grd_dec (fun _ => ?_) (fun _ => ?_)) | (with_reducible refine egrd_dec (fun _ => ?_) (fun _ => ?_)))
    exact ⟨_, by omega, tv, th', bk', S', st', rfl, f11', by omega, fun y hy => (hoK y (by omega) (by omega) (by omega) (by omega)).trans ((hl7 y (by omega)).trans (ho2 y hy)), hbt', hbb', hA', hT'⟩
  have hEK : HExt H K := ⟨by omega, fun y hy => (hoK y (by omega) (by omega) (by omega) (by omega)).trans ((hl7 y (by omega)).trans (hE2.ob y hy))⟩
  have hmaK := (hoK H.nx (by omega) (by omega) (by omega) (by omega)).trans ((hl7 _ (by omega)).trans hma2)
  have hmbK := (hoK (H.nx + 1) (by omega) (by omega) (by omega) (by omega)).trans ((hl7 _ (by omega)).trans hmb2)
  have hlt := hF.ch.mem a hm
  rw [hs] at hlt
  rw [hs, hg] at hsz
  have hnin := new_in (roots := roots) hF hm hrc (j := 2 + k) (by omega)
  rw [hb] at hnin
  obtain ⟨l1, o1, os1, e1', kd1, rfl, hl1, hc1, hm1, hob1, hol1, hos1, hwf1⟩ := (hw.good hEK).1.ints (by omega)
  obtain ⟨l2, o2, os2, e2', kd2, rfl, hl2, hc2, hm2, hob2, hol2, hos2, hwf2⟩ := (hw'.good hEK).1.ints (by rw [hcw]; omega)
  have hg1 : os1[o1 + (a + 2 + k)]? = some (.int .u64 (wd ws (a + 2 + k))) := hos1 _ (by omega)
  have hg2 : os2[o2 + (b + 2 + k)]? = some (.int .u64 (wd (colL ws roots ls) (b + 2 + k))) := hos2 _ (by rw [hcw]; omega)
  have z1 : ((a : Int) + 2 + (k : Int)).toNat = a + 2 + k := by omega
  have z2 : ((b : Int) + 2 + (k : Int)).toNat = b + 2 + k := by omega
  have hwk := wd_nonneg hu (a + 2 + k)
  by_cases hkg : k < g
  · have hf := new_fld (roots := roots) hF hm hrc (i := k) (by omega)
    rw [hb] at hf
    rw [hf] at hg2
    have hfr := fld_rc (roots := roots) hF hm hrc (i := k) (by omega)
    repeat' (first | (simp (disch := first | omega | (decide +kernel) | (repeat (first | assumption | exact HExt.refl _ | (refine HExt.set ?_ (by first | omega | (simp only [new_nx, set_nx]; omega)) _) | (refine HExt.new ?_ _)))) only [↓RD, RU, accW_t, accW_f, isW, ↓putF_get, ↓putF_none, ↓evF_t, ↓evF_c, ↓evF_f, new_nx, set_nx, new_get, set_get, getD_zero, getD_succ, u_not, pop, lop, aop, wop, resL, resV, tupleV, akV, isVal, isCell, Value.cells, List.map_cons, List.map_nil, Bool.not_true, Bool.not_false, Option.map_some, ↓reduceIte, Nat.reduceEqDiff, Nat.reduceAdd, Int.reduceOfNat, Int.reduceNegSucc, reduceCtorEq, List.getElem?_cons_zero, List.getElem?_cons_succ, List.length_cons, List.length_nil, srcR_c, src_n, src_v, src_s, bnd, lenV, capV, Option.isSome_none, Option.isNone_none, Option.isSome_some, Option.isNone_some, Bool.true_or, Bool.false_or, List.take_succ_cons, List.take_zero, List.drop_succ_cons, List.drop_zero, List.cons_append, List.nil_append, List.drop_nil, List.all_cons, List.all_nil, Bool.true_and, Kd.isRo, List.size_toArray, List.toList_toArray, bldV, Nat.reduceLeDiff, Int.reduceMul, Int.reduceAdd, Int.reduceSub, Int.reduceToNat, maxLen_eq, zeros_one, appS_some, appV_n, appV_v, appH_t, appH_f, Kd.isEx, Bool.false_and, partV, Nat.add_zero, Int.toNat_natCast, f20, f11', hag3, hag2, hag, hxK, hyK, hpK, hmaK, hmbK, hob1, hob2, z1, z2, hg1, hg2]) | (with_reducible refine condK_dec (fun _ => ?_) (fun _ => ?_)) | (with_reducible refine grd_dec (fun _ => ?_) (fun _ => ?_)) | (with_reducible refine egrd_dec (fun _ => ?_) (fun _ => ?_)))
    refine (match_wp (lo := H.nx + 4) hF htm.symm hA' hT' hbt' hbb' (by omega) (by omega) (by omega) (by omega) hwk.1 hwk.2 hfr.1 hfr.2).mono fun v K' ⟨tv', th2, bk2, S2, st2, hv, j1, j2, j3, j4, j5, j6, j7, j8⟩ => ?_
    subst hv
    repeat' (first | (simp (disch := first | omega | (decide +kernel) | (repeat (first | assumption | exact HExt.refl _ | (refine HExt.set ?_ (by first | omega | (simp only [new_nx, set_nx]; omega)) _) | (refine HExt.new ?_ _)))) only [↓RD, RU, accW_t, accW_f, isW, ↓putF_get, ↓putF_none, ↓evF_t, ↓evF_c, ↓evF_f, new_nx, set_nx, new_get, set_get, getD_zero, getD_succ, u_not, pop, lop, aop, wop, resL, resV, tupleV, akV, isVal, isCell, Value.cells, List.map_cons, List.map_nil, Bool.not_true, Bool.not_false, Option.map_some, ↓reduceIte, Nat.reduceEqDiff, Nat.reduceAdd, Int.reduceOfNat, Int.reduceNegSucc, reduceCtorEq, List.getElem?_cons_zero, List.getElem?_cons_succ, List.length_cons, List.length_nil, srcR_c, src_n, src_v, src_s, bnd, lenV, capV, Option.isSome_none, Option.isNone_none, Option.isSome_some, Option.isNone_some, Bool.true_or, Bool.false_or, List.take_succ_cons, List.take_zero, List.drop_succ_cons, List.drop_zero, List.cons_append, List.nil_append, List.drop_nil, List.all_cons, List.all_nil, Bool.true_and, Kd.isRo, List.size_toArray, List.toList_toArray, bldV, Nat.reduceLeDiff, Int.reduceMul, Int.reduceAdd, Int.reduceSub, Int.reduceToNat, maxLen_eq, zeros_one, appS_some, appV_n, appV_v, appH_t, appH_f, Kd.isEx, Bool.false_and, partV, Nat.add_zero, Int.toNat_natCast, f20, hag3, hag2, hag]) | (with_reducible refine condK_dec (fun _ => ?_) (fun _ => ?_)) | (with_reducible refine grd_dec (fun _ => ?_) (fun _ => ?_)) | (with_reducible refine egrd_dec (fun _ => ?_) (fun _ => ?_)))
    have hne : ∀ y, y < K7.nx → y ≠ x → ∀ o n c, tv ≠ .slice (some ⟨y, o, none⟩) n c := fun y hy hyx o n c e => (htv y o n c e).elim hyx (by omega)
    refine ⟨_, by omega, k + 1, tv', th2, bk2, S2, st2, rfl, by omega, rfl, rfl, by omega, fun y h5 h6 h7 h8 => (j7 y (by omega) h6 h7 (hne y h5 h8)).trans (hoK y h5 h6 h7 h8), j2, j3, j4, j5, by omega, fun y o n c e => ?_⟩
    rcases j8 y o n c e with h | ⟨o', n', c', h⟩
    · exact .inr (by omega)
    · exact htv y o' n' c' h
  · have hf := hnin.2
    rw [← Nat.add_assoc] at hf
    have hov : objW ws roots ls a (2 + k) = wd ws (a + 2 + k) := by unfold objW; rw [if_neg (by omega), Nat.add_assoc]
    rw [hf, hov] at hg2
    repeat' (first | (simp (disch := first | omega | (decide +kernel) | (repeat (first | assumption | exact HExt.refl _ | (refine HExt.set ?_ (by first | omega | (simp only [new_nx, set_nx]; omega)) _) | (refine HExt.new ?_ _)))) only [↓RD, RU, accW_t, accW_f, isW, ↓putF_get, ↓putF_none, ↓evF_t, ↓evF_c, ↓evF_f, new_nx, set_nx, new_get, set_get, getD_zero, getD_succ, u_not, pop, lop, aop, wop, resL, resV, tupleV, akV, isVal, isCell, Value.cells, List.map_cons, List.map_nil, Bool.not_true, Bool.not_false, Option.map_some, ↓reduceIte, Nat.reduceEqDiff, Nat.reduceAdd, Int.reduceOfNat, Int.reduceNegSucc, reduceCtorEq, List.getElem?_cons_zero, List.getElem?_cons_succ, List.length_cons, List.length_nil, srcR_c, src_n, src_v, src_s, bnd, lenV, capV, Option.isSome_none, Option.isNone_none, Option.isSome_some, Option.isNone_some, Bool.true_or, Bool.false_or, List.take_succ_cons, List.take_zero, List.drop_succ_cons, List.drop_zero, List.cons_append, List.nil_append, List.drop_nil, List.all_cons, List.all_nil, Bool.true_and, Kd.isRo, List.size_toArray, List.toList_toArray, bldV, Nat.reduceLeDiff, Int.reduceMul, Int.reduceAdd, Int.reduceSub, Int.reduceToNat, maxLen_eq, zeros_one, appS_some, appV_n, appV_v, appH_t, appH_f, Kd.isEx, Bool.false_and, partV, Nat.add_zero, Int.toNat_natCast, f20, f11', hag3, hag2, hag, hxK, hyK, hpK, hmaK, hmbK, hob1, hob2, z1, z2, hg1, hg2]) | (with_reducible refine condK_dec (fun _ => ?_) (fun _ => ?_)) | (with_reducible refine grd_dec (fun _ => ?_) (fun _ => ?_)) | (with_reducible refine egrd_dec (fun _ => ?_) (fun _ => ?_)))
    exact ⟨_, by omega, k + 1, tv, th', bk', S', st', rfl, by omega, rfl, rfl, hnK, hoK, hbt', hbb', hA', hT', hms, htv⟩
end Can
end Go.Proofs.Ytjgigomeneddpaa
