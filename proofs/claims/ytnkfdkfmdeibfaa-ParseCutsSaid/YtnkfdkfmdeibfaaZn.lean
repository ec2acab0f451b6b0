/- Parse: how high the trees are. No program in sight. (Printed by tools/genpsh.py.). Parse, the program: leaf, single, place. Parse, the program: its rules, as runs over trees, along the grammar. (Printed by tools/genpw3.py.). Parse, the program: all its rules, along the grammar. (Printed by tools/genpw3.py.). Parse, the program: parse.Parse, ahead of its deferred call. -/
import Derived.Test.YtnkfdkfmdeibfaaZm
section
namespace Go.Proofs.Ytnkfdkfmdeibfaa
namespace Can
set_option linter.unusedSimpArgs false
set_option linter.unusedVariables false
mutual
/-- How many levels. -/
def htN : Nd → Nat
  | .mk _ _ _ _ ks => htL ks + 1
def htL : List Nd → Nat
  | [] => 0
  | n :: ks => max (htN n) (htL ks)
end
theorem htL_drop {ks : List Nd} {i : Nat} {t : Nd} (h : ks[i]? = some t) : htL (ks.drop i) = max (htN t) (htL (ks.drop (i + 1))) := by
  obtain ⟨hi, rfl⟩ := List.getElem?_eq_some_iff.1 h
  rw [List.drop_eq_getElem_cons hi]
  rfl
theorem htL_mem : ∀ {ks : List Nd} {t : Nd}, t ∈ ks → htN t ≤ htL ks
  | n :: ks, t, h => by
    rcases List.mem_cons.1 h with rfl | h
    · exact Nat.le_max_left _ _
    · exact Nat.le_trans (htL_mem h) (Nat.le_max_right _ _)
mutual
/-- How many nodes. -/
def szN : Nd → Nat
  | .mk _ _ _ _ ks => szL ks + 1
def szL : List Nd → Nat
  | [] => 0
  | n :: ks => szN n + szL ks
end
mutual
theorem ht_szN : ∀ n : Nd, htN n ≤ szN n
  | .mk _ _ _ _ ks => Nat.succ_le_succ (ht_szL ks)
theorem ht_szL : ∀ ks : List Nd, htL ks ≤ szL ks
  | [] => Nat.le_refl _
  | n :: ks => Nat.max_le.2 ⟨Nat.le_trans (ht_szN n) (Nat.le_add_right _ _), Nat.le_trans (ht_szL ks) (Nat.le_add_left _ _)⟩
end
theorem szL_app : ∀ {a b : List Nd}, szL (a ++ b) = szL a + szL b
  | [], b => (Nat.zero_add _).symm
  | n :: a, b => by simp only [List.cons_append, szL, szL_app, Nat.add_assoc]
def NT.sz : NT → Nat
  | .params _ _ c => szL c
  | .row _ b => szL b
  | .exprsL _ b => szL b
  | .orL a => szN a
  | .andL a => szN a
  | .cmpL a b => szN a + szL b
  | .arithL a => szN a
  | .termL a => szN a
  | .primL a => szN a
  | .index a => szN a
  | .clauses a => szL a
  | .dictL _ b => szL b
  | .placesL _ b => szL b
  | .names _ _ c => szL c
  | .asgL _ b => szL b
  | .blockL a => szL a
  | .triesL a => szL a
  | .triesF _ b => szL b
  | .top a => szL a
  | _ => 0
def NT.lo : NT → Nat
  | .atom => 50
  | .primary => 50
  | .factor => 50
  | .term => 50
  | .arith => 50
  | .compare => 49
  | .expr => 49
  | .exprs => 48
  | .one => 50
  | .places => 49
  | .value => 47
  | .plain => 40
  | .simple => 40
  | .block => 30
  | .stmt => 30
  | .ifs _ => 20
  | .not => 49
  | .and => 49
  | .or => 49
  | _ => 0
def NT.ad : NT → Nat
  | .exprsL _ _ => 1
  | .cmpL _ _ => 1
  | .dictL _ _ => 1
  | .placesL _ _ => 1
  | .params _ _ _ => 1
  | .maybe _ _ _ => 1
  | .asgL _ _ => 1
  | .list _ => 1
  | .braces _ => 1
  | .triesF _ _ => 1
  | _ => 0
def GdT (P : List Nd → Nat → Prop) (r : PR) : Prop := Gd (fun _ => True) P r
theorem gd_and {E E' : Nat → Prop} {P P' : List Nd → Nat → Prop} {r : PR} (h : Gd E P r) (h' : Gd E' P' r) : Gd (fun e => E e ∧ E' e) (fun l j => P l j ∧ P' l j) r := by
  match r, h, h' with
  | some (.error e), h, h' => exact ⟨h, h'⟩
  | some (.ok (l, j)), h, h' => exact ⟨h, h'⟩
theorem gt_if {ts : List PT} {s : List UInt8} {i : Nat} {a b : PR} {P : List Nd → Nat → Prop} (h1 : i < ts.length → GdT P a) (h2 : GdT P b) : GdT P (if isT ts i s = true then a else b) := gd_if h1 h2
theorem gt_ite {c : Prop} [Decidable c] {a b : PR} {P : List Nd → Nat → Prop} (h1 : c → GdT P a) (h2 : ¬ c → GdT P b) : GdT P (if c then a else b) := gd_ite h1 h2
theorem gt_wantB {ts : List PT} {s : List UInt8} {i : Nat} {k : Nat → PR} {P : List Nd → Nat → Prop} (h2 : i < ts.length → GdT P (k (i + 1))) : GdT P (wantB ts s i k) := gd_wantB trivial h2
theorem gt_wantK {ts : List PT} {kd : Int} (h0 : kd ≠ 0) {i : Nat} {k : List UInt8 → Nat → PR} {P : List Nd → Nat → Prop} (h2 : i < ts.length → GdT P (k (nowT ts i).text (i + 1))) : GdT P (wantK ts kd i k) := gd_wantK h0 trivial h2
theorem gt_pk {t : Nd} {j : Nat} {P : List Nd → Nat → Prop} (h : P [t] j) : GdT P (pk1 t j) := h
theorem gt_ok {l : List Nd} {j : Nat} {P : List Nd → Nat → Prop} (h : P l j) : GdT P (some (.ok (l, j))) := h
theorem gt_er {e : Nat} {P : List Nd → Nat → Prop} : GdT P (some (.error e)) := trivial
def HtOk (ts : List PT) (f : Nat) : Prop := ∀ (a : NT) (i : Nat), a.good → i ≤ ts.length → ts.length * 64 + a.rank < f + i * 64 → GdT (fun l j => szL l + 64 * i + a.lo ≤ a.sz + 64 * j + a.ad) (gr ts f a i)
theorem HtOk.one {ts : List PT} {f : Nat} (h : HtOk ts f) {a : NT} {i : Nat} {P : List Nd → Nat → Prop} {k : Nd → Nat → PR} (hg : a.good) (hi : i ≤ ts.length) (hf : ts.length * 64 + a.rank < f + i * 64) (ha : a.acc = none) (hP : ∀ t j, i + a.min ≤ j → j ≤ ts.length → szN t + 64 * i + a.lo ≤ a.sz + 64 * j + a.ad → GdT P (k t j)) : GdT P (pb1 (gr ts f a i) k) := by
  unfold GdT
  rw [gd_pb1]
  refine (gd_and (gr_gd f a i hg hi hf) (h a i hg hi hf)).mono (fun _ _ => trivial) fun l j h => ?_
  obtain ⟨⟨h1, h2, h3⟩, h4⟩ := h
  rw [ha] at h3
  obtain ⟨t, rfl⟩ := nd_one_of h3
  exact ⟨t, rfl, hP t j h1 h2 h4⟩
theorem HtOk.lst {ts : List PT} {f : Nat} (h : HtOk ts f) {a : NT} {i : Nat} {P : List Nd → Nat → Prop} {k : List Nd → Nat → PR} (hg : a.good) (hi : i ≤ ts.length) (hf : ts.length * 64 + a.rank < f + i * 64) (hP : ∀ l j, i + a.min ≤ j → j ≤ ts.length → szL l + 64 * i + a.lo ≤ a.sz + 64 * j + a.ad → GdT P (k l j)) : GdT P (pb (gr ts f a i) k) := by
  unfold GdT
  rw [gd_pb]
  refine (gd_and (gr_gd f a i hg hi hf) (h a i hg hi hf)).mono (fun _ _ => trivial) fun l j h => ?_
  obtain ⟨⟨h1, h2, h3⟩, h4⟩ := h
  exact hP l j h1 h2 h4
theorem HtOk.nxt {ts : List PT} {f : Nat} (h : HtOk ts f) {a : NT} {i : Nat} {P : List Nd → Nat → Prop} (hg : a.good) (hi : i ≤ ts.length) (hf : ts.length * 64 + a.rank < f + i * 64) (hP : ∀ l j, i + a.min ≤ j → j ≤ ts.length → szL l + 64 * i + a.lo ≤ a.sz + 64 * j + a.ad → P l j) : GdT P (gr ts f a i) :=
  (gd_and (gr_gd f a i hg hi hf) (h a i hg hi hf)).mono (fun _ _ => trivial) fun l j ⟨⟨h1, h2, h3⟩, h4⟩ => hP l j h1 h2 h4
theorem gt_op {ts : List PT} {i : Nat} (hi : i ≤ ts.length) {P : List Nd → Nat → Prop} {A : PR} {B : Nat → Nat → PR} (hA : GdT P A) (hB : ∀ op j, i < j → j ≤ ts.length → GdT P (B op j)) : GdT P (match opT ts i with | .error e => some (.error e) | .ok (0, _) => A | .ok (op + 1, j) => B op j) := by
  have ho := opT_gd hi
  match opT ts i, ho with
  | .error e, ho => exact gt_er
  | .ok (0, _), _ => exact hA
  | .ok (op + 1, j), ho =>
    rcases ho with ⟨h, _⟩ | ⟨_, h1, h2⟩
    · cases h
    · exact hB op j h1 h2
set_option maxHeartbeats 4000000 in
theorem htOk_succ {ts : List PT} {f : Nat} (ih : HtOk ts f) : HtOk ts (f + 1) := by
  intro a i hg hi hf
  cases a
  case' maybe k l c => cases c
  case' asgL l acc => obtain ⟨t, ht⟩ := last_ne hg
  case' cmpL n acc => cases hb : acc.isEmpty
  all_goals first | simp only [gr, ht] | simp only [gr, hb, Bool.false_eq_true, if_false, if_true] | simp only [gr, Bool.false_eq_true, if_false, if_true]
  case' cmpL.false => refine gt_op hi ?_ fun op j h1 h2 => ?_
  case' cmpL.true => refine gt_op hi ?_ fun op j h1 h2 => ?_
  all_goals (repeat' first | (have h0 := kd_lt (by rw [h]; decide); clear h) | (have h0 := kd_lt (i := i) (ts := ts) (by omega); clear h) | (have h0 := augT_lt h; clear h) | (with_reducible refine gt_if (fun h => ?_) ?_) | ((with_reducible refine gt_wantB ?_); intro h) | ((with_reducible refine gt_wantK ?_ ?_); decide; intro h) | (with_reducible exact gt_er) | ((with_reducible refine gt_pk ?_); (simp only [NT.min, NT.sz, NT.lo, NT.ad, szN, szL, szL_app]; omega)) | ((with_reducible refine gt_ok ?_); (simp only [NT.min, NT.sz, NT.lo, NT.ad, szN, szL, szL_app]; omega)) | ((with_reducible refine ih.one ?_ ?_ ?_ ?_ ?_); (first | exact True.intro | simp [NT.good]); omega; (simp only [NT.rank] at hf ⊢; omega); rfl; intro t j g1 g3 g7; simp only [NT.min, NT.sz, NT.lo, NT.ad, szN, szL, szL_app] at g1 g7) | ((with_reducible refine ih.lst ?_ ?_ ?_ ?_); (first | exact True.intro | simp [NT.good]); omega; (simp only [NT.rank] at hf ⊢; omega); intro l j g1 g3 g7; simp only [NT.min, NT.sz, NT.lo, NT.ad, szN, szL, szL_app] at g1 g7) | ((with_reducible refine ih.nxt ?_ ?_ ?_ ?_); (first | exact True.intro | simp [NT.good]); omega; (simp only [NT.rank] at hf ⊢; omega); intro l j g1 g3 g7; simp only [NT.min, NT.sz, NT.lo, NT.ad, szN, szL, szL_app] at g1 g7 ⊢; omega) | (with_reducible refine gt_ite (fun h => ?_) (fun h => ?_)))
theorem gr_ht {ts : List PT} : ∀ f, HtOk ts f
  | 0 => fun a i _ hi h => by omega
  | f + 1 => htOk_succ (gr_ht f)
end Can
end Go.Proofs.Ytnkfdkfmdeibfaa
end
section
namespace Go.Proofs.Ytnkfdkfmdeibfaa
namespace Can
open Go Go.RowKit
set_option linter.unusedSimpArgs false
set_option linter.unusedVariables false
set_option maxRecDepth 4000
attribute [local irreducible] TC isT nowT begT
theorem wr_inc' {i n : Nat} (h : i < n) (hn : n ≤ maxLen) : (IntKind.wrap .i64 ((i : Int) + 1)) = ((i + 1 : Nat) : Int) := by
  rw [maxLen_eq] at hn
  rw [w_i64 (by omega) (by omega)]; omega
section
variable {Z : TP} {X : Pan} {R : Value → Prop} {Q : AV → List SV → Prop}
theorem leaf_tc {k : Int} (h4 : 4 ≤ k) (h7 : k ≤ 7) (hQ : Q (rS (.int .i64 (leafK k : Nat))) []) : TC Z (tblG Try.prog LG GG) X 65 [rS (.int .i64 k)] none Q R := by
  refine tc_rG dt_ok (by rfl) (by kernel_rfl) ?_
  conv in (rF _ _).body => reduce
  conv in (rF _ _).res => reduce
  obtain rfl | rfl | rfl | rfl : k = 4 ∨ k = 5 ∨ k = 6 ∨ k = 7 := by omega
  all_goals
    conv => whnf
    exact hQ
theorem single_tc {k : Nat} {l : Int} {x : List UInt8} {o : Nat} {ks : List Nd} (hQ : Q (rS (.bool (singleN (.mk k l x o ks)))) []) : TC Z (tblG Try.prog LG GG) X 44 [ndA (.mk k l x o ks)] none Q R := by
  have e : singleN (.mk k l x o ks) = decide (k = 36 ∨ k = 45 ∨ k = 46) := rfl
  rw [e] at hQ
  refine tc_rG dt_ok (by rfl) (by kernel_rfl) ?_
  conv in (rF _ _).body => reduce
  conv in (rF _ _).res => reduce
  by_cases h1 : k = 36
  · subst h1
    conv => whnf
    exact hQ
  by_cases h2 : k = 45
  · subst h2
    conv => whnf
    exact hQ
  by_cases h3 : k = 46
  · subst h3
    conv => whnf
    exact hQ
  rw [decide_eq_false (by omega)] at hQ
  conv => whnf
  refine ifT_c (fun h => by exfalso; simp at h; omega) fun h => ?_
  conv => whnf
  refine ifT_c (fun h => by exfalso; simp at h; omega) fun h => ?_
  conv => whnf
  refine ifT_c (fun h => by exfalso; simp at h; omega) fun h => ?_
  conv => whnf
  exact hQ
theorem single_st {k : Nat} {l : Int} {x : List UInt8} {o : Nat} {ks : List Nd} {E : Nat → Prop} {P : List Nd → Nat → Prop} {A B : PR} (hG : Gd E P (if singleN (.mk k l x o ks) = true then A else B)) (h1 : Gd E P A → Q (rS (.bool true)) []) (h2 : Gd E P B → Q (rS (.bool false)) []) : TC Z (tblG Try.prog LG GG) X 44 [ndA (.mk k l x o ks)] none Q R := by
  refine single_tc ?_
  cases h : singleN (.mk k l x o ks) with
  | true => rw [if_pos h] at hG; exact h1 hG
  | false => rw [if_neg (by rw [h]; decide)] at hG; exact h2 hG
theorem placesN_drop {ks : List Nd} {i : Nat} {t : Nd} (h : ks[i]? = some t) : placesN (ks.drop i) = (placeN t && placesN (ks.drop (i + 1))) := by
  obtain ⟨hi, rfl⟩ := List.getElem?_eq_some_iff.1 h
  rw [List.drop_eq_getElem_cons hi]
  rfl
noncomputable def nsz : Nd → Nat := fun t => SizeOf.sizeOf t
theorem nsz_lt {k : Nat} {l : Int} {x : List UInt8} {o : Nat} {ks : List Nd} {t : Nd} (h : t ∈ ks) : nsz t < nsz (.mk k l x o ks) := by
  have h1 := List.sizeOf_lt_of_mem h
  unfold nsz
  rw [Nd.mk.sizeOf_spec]
  omega
theorem place_tc : ∀ (N : Nat) (k : Nat) (l : Int) (x : List UInt8) (o : Nat) (ks : List Nd), nsz (.mk k l x o ks) < N → ∀ (Q : AV → List SV → Prop) (R : Value → Prop), Q (rS (.bool (placeN (.mk k l x o ks)))) [] → TC Z (tblG Try.prog LG GG) X 51 [ndA (.mk k l x o ks)] none Q R := by
  intro N
  induction N with
  | zero => intro k l x o ks h; exact absurd h (Nat.not_lt_zero _)
  | succ N ih =>
  intro k l x o ks hN Q R hQ
  refine tc_rG dt_ok (by rfl) (by kernel_rfl) ?_
  conv in (rF _ _).body => reduce
  conv in (rF _ _).res => reduce
  by_cases hk : k = 52 ∨ k = 51
  · have e : placeN (.mk k l x o ks) = (placesN ks && !ks.isEmpty) := if_pos hk
    rw [e] at hQ
    rcases hk with rfl | rfl
    all_goals
      conv => whnf
      refine loop_1 3 (fun m a s => ∃ i : Nat, a = rS (.int .i64 (i : Nat)) ∧ s = ⟨0, [oN (nA _ l x o ks)]⟩ ∧ m + i = ks.length ∧ placesN ks = placesN (ks.drop i)) ks.length [] rfl ⟨0, rfl, rfl, rfl, rfl⟩ ?_
      rintro m a f s ⟨i, rfl, rfl, hm, hp⟩
      conv => whnf
      intro hmx
      conv => whnf
      refine ifT_c (fun h => ?_) fun h => ?_
      · have hi : i < ks.length := by simp [ndsS_len] at h; omega
        obtain ⟨t, ht⟩ : ∃ t, ks[i]? = some t := ⟨_, List.getElem?_eq_getElem hi⟩
        have hd := placesN_drop ht
        have hlt := nsz_lt (List.mem_of_getElem? ht) (k := 52) (l := l) (x := x) (o := o)
        have hlt2 := nsz_lt (List.mem_of_getElem? ht) (k := 51) (l := l) (x := x) (o := o)
        obtain ⟨k1, l1, x1, o1, ks1⟩ := t
        conv => whnf
        refine ⟨rfl, i, _, rfl, ndsS_get ht, ?_⟩
        conv => whnf
        refine ih k1 l1 x1 o1 ks1 (by omega) _ _ ?_
        conv => whnf
        cases hpl : placeN (.mk k1 l1 x1 o1 ks1) with
        | true =>
          rw [hpl, Bool.true_and] at hd
          conv => whnf
          rw [ndsS_len] at hmx
          exact ⟨m - 1, [], by omega, rfl, i + 1, congrArg (fun n => rS (.int .i64 n)) (wr_inc' hi hmx), rfl, by omega, hp.trans hd⟩
        | false =>
          rw [hp, hd, hpl] at hQ
          conv => whnf
          exact hQ
      · have hi : i = ks.length := by simp [ndsS_len] at h; omega
        subst hi
        have hp : placesN ks = true := by rw [hp, List.drop_length]; rfl
        rw [hp, Bool.true_and] at hQ
        conv => whnf
        intro hmx
        conv => whnf
        refine ifT_c (fun h => ?_) fun h => ?_
        · have : ks.isEmpty = false := by cases ks; simp [ndsS] at h; rfl
          rw [this] at hQ
          conv => whnf
          exact hQ
        · have : ks.isEmpty = true := by cases ks; rfl; simp [ndsS] at h
          rw [this] at hQ
          conv => whnf
          exact hQ
  · have e : placeN (.mk k l x o ks) = decide (k = 36 ∨ k = 45 ∨ k = 46) := if_neg hk
    have e' : singleN (.mk k l x o ks) = decide (k = 36 ∨ k = 45 ∨ k = 46) := rfl
    rw [e, ← e'] at hQ
    conv => whnf
    refine ifT_c (fun h => ?_) fun h => by exfalso; simp at h; omega
    conv => whnf
    refine ifT_c (fun h => ?_) fun h => by exfalso; simp at h; omega
    conv => whnf
    refine single_tc ?_
    conv => whnf
    cases hs : singleN (.mk k l x o ks) with
    | true =>
      rw [hs] at hQ
      conv => whnf
      exact hQ
    | false =>
      rw [hs] at hQ
      conv => whnf
      exact hQ
theorem place_st {k : Nat} {l : Int} {x : List UInt8} {o : Nat} {ks : List Nd} {E : Nat → Prop} {P : List Nd → Nat → Prop} {A B : PR} (hG : Gd E P (if placeN (.mk k l x o ks) = true then A else B)) (h1 : Gd E P A → Q (rS (.bool true)) []) (h2 : Gd E P B → Q (rS (.bool false)) []) : TC Z (tblG Try.prog LG GG) X 51 [ndA (.mk k l x o ks)] none Q R := by
  refine place_tc _ k l x o ks (Nat.lt_succ_self _) Q R ?_
  cases h : placeN (.mk k l x o ks) with
  | true => rw [if_pos h] at hG; exact h1 hG
  | false => rw [if_neg (by rw [h]; decide)] at hG; exact h2 hG
theorem max_int (a b : Nat) : (if true = true then (if ((b : Nat) : Int) > (a : Nat) then ((b : Nat) : Int) else (a : Nat)) else if ((b : Nat) : Int) < (a : Nat) then ((b : Nat) : Int) else (a : Nat)) = ((max a b : Nat) : Int) := by
  rw [if_pos rfl]
  split <;> omega
theorem height_tc : ∀ (N : Nat) (k : Nat) (l : Int) (x : List UInt8) (o : Nat) (ks : List Nd), nsz (.mk k l x o ks) < N → htL ks + 1 ≤ 9223372036854775807 → ∀ (Q : AV → List SV → Prop) (R : Value → Prop), Q (rS (.int .i64 (htL ks + 1 : Nat))) [] → TC Z (tblG Try.prog LG GG) X 18 [ndA (.mk k l x o ks)] none Q R := by
  intro N
  induction N with
  | zero => intro k l x o ks h; exact absurd h (Nat.not_lt_zero _)
  | succ N ih =>
  intro k l x o ks hN hB Q R hQ
  refine tc_rG dt_ok (by rfl) (by kernel_rfl) ?_
  conv in (rF _ _).body => reduce
  conv in (rF _ _).res => reduce
  conv => whnf
  refine loop_2 4 3 (fun m a b s => ∃ i h : Nat, a = rS (.int .i64 (i : Nat)) ∧ b = rS (.int .i64 (h : Nat)) ∧ s = ⟨0, [oN (nA k l x o ks)]⟩ ∧ m + i = ks.length ∧ max h (htL (ks.drop i)) = htL ks) ks.length [] rfl ⟨0, 0, rfl, rfl, rfl, rfl, Nat.zero_max _⟩ ?_
  rintro m a b f s ⟨i, h, rfl, rfl, rfl, hm, hp⟩
  conv => whnf
  intro hmx
  conv => whnf
  refine ifT_c (fun hc => ?_) fun hc => ?_
  · have hi : i < ks.length := by simp [ndsS_len] at hc; omega
    obtain ⟨t, ht⟩ : ∃ t, ks[i]? = some t := ⟨_, List.getElem?_eq_getElem hi⟩
    have hd := htL_drop ht
    have hlt := nsz_lt (List.mem_of_getElem? ht) (k := k) (l := l) (x := x) (o := o)
    have hht := htL_mem (List.mem_of_getElem? ht)
    obtain ⟨k1, l1, x1, o1, ks1⟩ := t
    have e1 : htN (.mk k1 l1 x1 o1 ks1) = htL ks1 + 1 := rfl
    conv => whnf
    refine ⟨rfl, i, _, rfl, ndsS_get ht, ?_⟩
    conv => whnf
    refine ih k1 l1 x1 o1 ks1 (by omega) (by omega) _ _ ?_
    conv => whnf
    rw [ndsS_len] at hmx
    refine ⟨m - 1, [], by omega, rfl, i + 1, max h (htL ks1 + 1), congrArg (fun n => rS (.int .i64 n)) (wr_inc' hi hmx), ?_, rfl, by omega, by rw [← hp, hd, e1, Nat.max_assoc]⟩
    exact congrArg (fun n => rS (.int .i64 n)) (max_int h (htL ks1 + 1))
  · have hi : i = ks.length := by simp [ndsS_len] at hc; omega
    subst hi
    have hp : h = htL ks := by rw [← hp, List.drop_length]; exact (Nat.max_zero _).symm
    subst hp
    conv => whnf
    exact q_eq (congrArg (fun n => rS (.int .i64 n)) (wr_inc' (Nat.lt_succ_self _) (by rw [maxLen_eq]; omega))) rfl hQ
end
end Can
end Go.Proofs.Ytnkfdkfmdeibfaa
end
section
namespace Go.Proofs.Ytnkfdkfmdeibfaa
namespace Can
open Go Go.RowKit
set_option linter.unusedSimpArgs false
set_option linter.unusedVariables false
set_option maxRecDepth 4000
attribute [local irreducible] TC isT nowT begT placeN
structure PAll (Z : TP) (X : Pan) (W : Int → Value) (ts : List PT) (sl : Sl) (g : Nat) : Prop where
  expr : PC Z X W ts sl g .expr 22 [.ptr 0 0] ans1
  or_ : PC Z X W ts sl g .or 36 [.ptr 0 0] ans1
  and_ : PC Z X W ts sl g .and 50 [.ptr 0 0] ans1
  not_ : PC Z X W ts sl g .not 64 [.ptr 0 0] ans1
  compare : PC Z X W ts sl g .compare 73 [.ptr 0 0] ans1
  arith : PC Z X W ts sl g .arith 79 [.ptr 0 0] ans1
  term : PC Z X W ts sl g .term 83 [.ptr 0 0] ans1
  factor : PC Z X W ts sl g .factor 87 [.ptr 0 0] ans1
  primary : PC Z X W ts sl g .primary 43 [.ptr 0 0] ans1
  atom : PC Z X W ts sl g .atom 52 [.ptr 0 0] ans1
  exprs : PC Z X W ts sl g .exprs 26 [.ptr 0 0] ans1
  one : PC Z X W ts sl g .one 39 [.ptr 0 0] ans1
  places : PC Z X W ts sl g .places 25 [.ptr 0 0] ans1
  simple : PC Z X W ts sl g .simple 31 [.ptr 0 0] ans1
  plain : PC Z X W ts sl g .plain 45 [.ptr 0 0] ans1
  value : PC Z X W ts sl g .value 54 [.ptr 0 0] ans1
  block : PC Z X W ts sl g .block 24 [.ptr 0 0] ans1
  stmt : PC Z X W ts sl g .stmt 17 [.ptr 0 0] ans1
  params : ∀ (cl : List UInt8) (ln : Int), cl ≠ [] → PC Z X W ts sl g (.params cl ln []) 28 [.ptr 0 0, rS (.int .i64 ln), rS (.string ⟨⟨cl⟩⟩)] ans1
  row : ∀ (cl : List UInt8), cl ≠ [] → PC Z X W ts sl g (.row cl []) 29 [.ptr 0 0, rS (.string ⟨⟨cl⟩⟩)] ansL
  index : ∀ (k : Nat) (l : Int) (x : List UInt8) (o : Nat) (ks : List Nd), PC Z X W ts sl g (.index (.mk k l x o ks)) 53 [.ptr 0 0, ndA (.mk k l x o ks)] ans1
  clauses : PC Z X W ts sl g (.clauses []) 74 [.ptr 0 0] ansL
  list : ∀ (ln : Int), PC Z X W ts sl g (.list ln) 66 [.ptr 0 0, rS (.int .i64 ln)] ans1
  braces : ∀ (ln : Int), PC Z X W ts sl g (.braces ln) 67 [.ptr 0 0, rS (.int .i64 ln)] ans1
  names : ∀ (k : Nat) (ln : Int), PC Z X W ts sl g (.names k ln []) 42 [.ptr 0 0, rS (.int .i64 (k : Nat)), rS (.int .i64 ln)] ans1
  maybe : ∀ (k : Nat) (ln : Int) (all : Bool), PC Z X W ts sl g (.maybe k ln all) 41 [.ptr 0 0, rS (.int .i64 (k : Nat)), rS (.int .i64 ln), rS (.bool all)] ans1
  ifs : ∀ (ln : Int), PC Z X W ts sl g (.ifs ln) 21 [.ptr 0 0, rS (.int .i64 ln)] ans1
  tries : ∀ (ln : Int), PC Z X W ts sl g (.tries ln) 30 [.ptr 0 0, rS (.int .i64 ln)] ans1
theorem tck {Z : TP} {X : Pan} {args : List AV} {self : Self} {Q : AV → List SV → Prop} {R : Value → Prop} (g : FuncId) (h : TC Z (tblG Try.prog LG GG) X g args self Q R) : TC Z (tblG Try.prog LG GG) X g args self Q R := h
set_option maxRecDepth 1000000 in
/-- What is left to a rule is done by this one text. -/
theorem pw_go {Pz : Prop} (hz : Pz := by
  repeat' first
    | ((with_reducible refine tck 20 ?_); first | (refine has_st C hG (by first | decide | exact cl_ne) (by omega) (fun hl hG => ?_) (fun hG => ?_) <;> (conv => whnf)))
    | ((with_reducible refine tck 16 ?_); first | (refine now_tc C (by omega) ?_; (conv => whnf)))
    | ((with_reducible refine tck 23 ?_); first | (refine want_st C hG (by first | decide | exact cl_ne) (by omega) (by intro e he; first | exact hE e he | exact ⟨True.intro, hE e he⟩) ?_; intro hl hG; (conv => whnf)) | (refine want_kn C (by decide) (by omega) hb ?_; intro hl; (conv => whnf)))
    | ((with_reducible refine tck 35 ?_); first | (refine is_st C hG (by first | decide | exact cl_ne) (by omega) (fun hb hl hG => ?_) (fun hb hG => ?_) <;> (conv => whnf)) | (refine is_stf C hG (by first | decide | exact cl_ne) (by omega) (fun hG => ?_) (fun hG => ?_) <;> (conv => whnf)))
    | ((with_reducible refine tck 27 ?_); first | (refine wantK_st C hG (by decide) (by omega) (by intro e he; first | exact hE e he | exact ⟨True.intro, hE e he⟩) ?_; intro hl hG; (conv => whnf)))
    | ((with_reducible refine tck 40 ?_); first | (refine begins_st C hG (by omega) (fun hG => ?_) (fun hG => ?_) <;> (conv => whnf)))
    | ((with_reducible refine tck 38 ?_); first | (refine kind_st C hG (by decide) (by omega) (fun hl hG => ?_) (fun hG => ?_) <;> (conv => whnf)))
    | ((with_reducible refine tck 22 ?_); first | (refine rul_st ihf.expr hG (by trivial) rfl (by intro e he; first | exact hE e he | exact ⟨True.intro, hE e he⟩) (by omega) ?_; intro n1 l1 x1 o1 ks1 j1 hp1 hj1 hG; simp only [NT.min] at hp1; (conv => whnf)) | (refine tal_st ihf.expr hG (by trivial) rfl (by intro e he; first | exact hE e he | exact ⟨True.intro, hE e he⟩) (by omega) ?_; intro n1 l1 x1 o1 ks1 j1 hp1 hj1 hG; simp only [NT.min] at hp1; (conv => whnf)))
    | ((with_reducible refine tck 36 ?_); first | (refine rul_st ihf.or_ hG (by trivial) rfl (by intro e he; first | exact hE e he | exact ⟨True.intro, hE e he⟩) (by omega) ?_; intro n1 l1 x1 o1 ks1 j1 hp1 hj1 hG; simp only [NT.min] at hp1; (conv => whnf)) | (refine tal_st ihf.or_ hG (by trivial) rfl (by intro e he; first | exact hE e he | exact ⟨True.intro, hE e he⟩) (by omega) ?_; intro n1 l1 x1 o1 ks1 j1 hp1 hj1 hG; simp only [NT.min] at hp1; (conv => whnf)))
    | ((with_reducible refine tck 50 ?_); first | (refine rul_st ihf.and_ hG (by trivial) rfl (by intro e he; first | exact hE e he | exact ⟨True.intro, hE e he⟩) (by omega) ?_; intro n1 l1 x1 o1 ks1 j1 hp1 hj1 hG; simp only [NT.min] at hp1; (conv => whnf)) | (refine tal_st ihf.and_ hG (by trivial) rfl (by intro e he; first | exact hE e he | exact ⟨True.intro, hE e he⟩) (by omega) ?_; intro n1 l1 x1 o1 ks1 j1 hp1 hj1 hG; simp only [NT.min] at hp1; (conv => whnf)))
    | ((with_reducible refine tck 64 ?_); first | (refine rul_st ihf.not_ hG (by trivial) rfl (by intro e he; first | exact hE e he | exact ⟨True.intro, hE e he⟩) (by omega) ?_; intro n1 l1 x1 o1 ks1 j1 hp1 hj1 hG; simp only [NT.min] at hp1; (conv => whnf)) | (refine tal_st ihf.not_ hG (by trivial) rfl (by intro e he; first | exact hE e he | exact ⟨True.intro, hE e he⟩) (by omega) ?_; intro n1 l1 x1 o1 ks1 j1 hp1 hj1 hG; simp only [NT.min] at hp1; (conv => whnf)))
    | ((with_reducible refine tck 73 ?_); first | (refine rul_st ihf.compare hG (by trivial) rfl (by intro e he; first | exact hE e he | exact ⟨True.intro, hE e he⟩) (by omega) ?_; intro n1 l1 x1 o1 ks1 j1 hp1 hj1 hG; simp only [NT.min] at hp1; (conv => whnf)) | (refine tal_st ihf.compare hG (by trivial) rfl (by intro e he; first | exact hE e he | exact ⟨True.intro, hE e he⟩) (by omega) ?_; intro n1 l1 x1 o1 ks1 j1 hp1 hj1 hG; simp only [NT.min] at hp1; (conv => whnf)))
    | ((with_reducible refine tck 79 ?_); first | (refine rul_st ihf.arith hG (by trivial) rfl (by intro e he; first | exact hE e he | exact ⟨True.intro, hE e he⟩) (by omega) ?_; intro n1 l1 x1 o1 ks1 j1 hp1 hj1 hG; simp only [NT.min] at hp1; (conv => whnf)) | (refine tal_st ihf.arith hG (by trivial) rfl (by intro e he; first | exact hE e he | exact ⟨True.intro, hE e he⟩) (by omega) ?_; intro n1 l1 x1 o1 ks1 j1 hp1 hj1 hG; simp only [NT.min] at hp1; (conv => whnf)))
    | ((with_reducible refine tck 83 ?_); first | (refine rul_st ihf.term hG (by trivial) rfl (by intro e he; first | exact hE e he | exact ⟨True.intro, hE e he⟩) (by omega) ?_; intro n1 l1 x1 o1 ks1 j1 hp1 hj1 hG; simp only [NT.min] at hp1; (conv => whnf)) | (refine tal_st ihf.term hG (by trivial) rfl (by intro e he; first | exact hE e he | exact ⟨True.intro, hE e he⟩) (by omega) ?_; intro n1 l1 x1 o1 ks1 j1 hp1 hj1 hG; simp only [NT.min] at hp1; (conv => whnf)))
    | ((with_reducible refine tck 87 ?_); first | (refine rul_st ihf.factor hG (by trivial) rfl (by intro e he; first | exact hE e he | exact ⟨True.intro, hE e he⟩) (by omega) ?_; intro n1 l1 x1 o1 ks1 j1 hp1 hj1 hG; simp only [NT.min] at hp1; (conv => whnf)) | (refine tal_st ihf.factor hG (by trivial) rfl (by intro e he; first | exact hE e he | exact ⟨True.intro, hE e he⟩) (by omega) ?_; intro n1 l1 x1 o1 ks1 j1 hp1 hj1 hG; simp only [NT.min] at hp1; (conv => whnf)))
    | ((with_reducible refine tck 43 ?_); first | (refine rul_st ihf.primary hG (by trivial) rfl (by intro e he; first | exact hE e he | exact ⟨True.intro, hE e he⟩) (by omega) ?_; intro n1 l1 x1 o1 ks1 j1 hp1 hj1 hG; simp only [NT.min] at hp1; (conv => whnf)) | (refine tal_st ihf.primary hG (by trivial) rfl (by intro e he; first | exact hE e he | exact ⟨True.intro, hE e he⟩) (by omega) ?_; intro n1 l1 x1 o1 ks1 j1 hp1 hj1 hG; simp only [NT.min] at hp1; (conv => whnf)))
    | ((with_reducible refine tck 52 ?_); first | (refine rul_st ihf.atom hG (by trivial) rfl (by intro e he; first | exact hE e he | exact ⟨True.intro, hE e he⟩) (by omega) ?_; intro n1 l1 x1 o1 ks1 j1 hp1 hj1 hG; simp only [NT.min] at hp1; (conv => whnf)) | (refine tal_st ihf.atom hG (by trivial) rfl (by intro e he; first | exact hE e he | exact ⟨True.intro, hE e he⟩) (by omega) ?_; intro n1 l1 x1 o1 ks1 j1 hp1 hj1 hG; simp only [NT.min] at hp1; (conv => whnf)))
    | ((with_reducible refine tck 26 ?_); first | (refine rul_st ihf.exprs hG (by trivial) rfl (by intro e he; first | exact hE e he | exact ⟨True.intro, hE e he⟩) (by omega) ?_; intro n1 l1 x1 o1 ks1 j1 hp1 hj1 hG; simp only [NT.min] at hp1; (conv => whnf)) | (refine tal_st ihf.exprs hG (by trivial) rfl (by intro e he; first | exact hE e he | exact ⟨True.intro, hE e he⟩) (by omega) ?_; intro n1 l1 x1 o1 ks1 j1 hp1 hj1 hG; simp only [NT.min] at hp1; (conv => whnf)))
    | ((with_reducible refine tck 39 ?_); first | (refine rul_st ihf.one hG (by trivial) rfl (by intro e he; first | exact hE e he | exact ⟨True.intro, hE e he⟩) (by omega) ?_; intro n1 l1 x1 o1 ks1 j1 hp1 hj1 hG; simp only [NT.min] at hp1; (conv => whnf)) | (refine tal_st ihf.one hG (by trivial) rfl (by intro e he; first | exact hE e he | exact ⟨True.intro, hE e he⟩) (by omega) ?_; intro n1 l1 x1 o1 ks1 j1 hp1 hj1 hG; simp only [NT.min] at hp1; (conv => whnf)))
    | ((with_reducible refine tck 25 ?_); first | (refine rul_st ihf.places hG (by trivial) rfl (by intro e he; first | exact hE e he | exact ⟨True.intro, hE e he⟩) (by omega) ?_; intro n1 l1 x1 o1 ks1 j1 hp1 hj1 hG; simp only [NT.min] at hp1; (conv => whnf)) | (refine tal_st ihf.places hG (by trivial) rfl (by intro e he; first | exact hE e he | exact ⟨True.intro, hE e he⟩) (by omega) ?_; intro n1 l1 x1 o1 ks1 j1 hp1 hj1 hG; simp only [NT.min] at hp1; (conv => whnf)))
    | ((with_reducible refine tck 31 ?_); first | (refine rul_st ihf.simple hG (by trivial) rfl (by intro e he; first | exact hE e he | exact ⟨True.intro, hE e he⟩) (by omega) ?_; intro n1 l1 x1 o1 ks1 j1 hp1 hj1 hG; simp only [NT.min] at hp1; (conv => whnf)) | (refine tal_st ihf.simple hG (by trivial) rfl (by intro e he; first | exact hE e he | exact ⟨True.intro, hE e he⟩) (by omega) ?_; intro n1 l1 x1 o1 ks1 j1 hp1 hj1 hG; simp only [NT.min] at hp1; (conv => whnf)))
    | ((with_reducible refine tck 45 ?_); first | (refine rul_st ihf.plain hG (by trivial) rfl (by intro e he; first | exact hE e he | exact ⟨True.intro, hE e he⟩) (by omega) ?_; intro n1 l1 x1 o1 ks1 j1 hp1 hj1 hG; simp only [NT.min] at hp1; (conv => whnf)) | (refine tal_st ihf.plain hG (by trivial) rfl (by intro e he; first | exact hE e he | exact ⟨True.intro, hE e he⟩) (by omega) ?_; intro n1 l1 x1 o1 ks1 j1 hp1 hj1 hG; simp only [NT.min] at hp1; (conv => whnf)))
    | ((with_reducible refine tck 54 ?_); first | (refine rul_st ihf.value hG (by trivial) rfl (by intro e he; first | exact hE e he | exact ⟨True.intro, hE e he⟩) (by omega) ?_; intro n1 l1 x1 o1 ks1 j1 hp1 hj1 hG; simp only [NT.min] at hp1; (conv => whnf)) | (refine tal_st ihf.value hG (by trivial) rfl (by intro e he; first | exact hE e he | exact ⟨True.intro, hE e he⟩) (by omega) ?_; intro n1 l1 x1 o1 ks1 j1 hp1 hj1 hG; simp only [NT.min] at hp1; (conv => whnf)))
    | ((with_reducible refine tck 24 ?_); first | (refine rul_st ihf.block hG (by trivial) rfl (by intro e he; first | exact hE e he | exact ⟨True.intro, hE e he⟩) (by omega) ?_; intro n1 l1 x1 o1 ks1 j1 hp1 hj1 hG; simp only [NT.min] at hp1; (conv => whnf)) | (refine tal_st ihf.block hG (by trivial) rfl (by intro e he; first | exact hE e he | exact ⟨True.intro, hE e he⟩) (by omega) ?_; intro n1 l1 x1 o1 ks1 j1 hp1 hj1 hG; simp only [NT.min] at hp1; (conv => whnf)) | (refine rul_st ihf2.block hG (by trivial) rfl (by intro e he; first | exact hE e he | exact ⟨True.intro, hE e he⟩) (by omega) ?_; intro n1 l1 x1 o1 ks1 j1 hp1 hj1 hG; simp only [NT.min] at hp1; (conv => whnf)))
    | ((with_reducible refine tck 17 ?_); first | (refine rul_st ihf.stmt hG (by trivial) rfl (by intro e he; first | exact hE e he | exact ⟨True.intro, hE e he⟩) (by omega) ?_; intro n1 l1 x1 o1 ks1 j1 hp1 hj1 hG; simp only [NT.min] at hp1; (conv => whnf)) | (refine tal_st ihf.stmt hG (by trivial) rfl (by intro e he; first | exact hE e he | exact ⟨True.intro, hE e he⟩) (by omega) ?_; intro n1 l1 x1 o1 ks1 j1 hp1 hj1 hG; simp only [NT.min] at hp1; (conv => whnf)))
    | ((with_reducible refine tck 28 ?_); first | (refine rul_st (ihf.params _ _ (by decide)) hG (by trivial) rfl (by intro e he; first | exact hE e he | exact ⟨True.intro, hE e he⟩) (by omega) ?_; intro n1 l1 x1 o1 ks1 j1 hp1 hj1 hG; simp only [NT.min] at hp1; (conv => whnf)) | (refine tal_st (ihf.params _ _ (by decide)) hG (by trivial) rfl (by intro e he; first | exact hE e he | exact ⟨True.intro, hE e he⟩) (by omega) ?_; intro n1 l1 x1 o1 ks1 j1 hp1 hj1 hG; simp only [NT.min] at hp1; (conv => whnf)))
    | ((with_reducible refine tck 29 ?_); first | (refine lst_st (ihf.row _ (by decide)) hG (by trivial) rfl (by intro e he; first | exact hE e he | exact ⟨True.intro, hE e he⟩) (by omega) ?_; intro l1 j1 hp1 hj1 hb1 hG; simp only [NT.acc, Option.getD_some, List.length_nil] at hb1; (conv => whnf)))
    | ((with_reducible refine tck 53 ?_); first | (refine rul_st (ihf.index _ _ _ _ _) hG (by trivial) rfl (by intro e he; first | exact hE e he | exact ⟨True.intro, hE e he⟩) (by omega) ?_; intro n1 l1 x1 o1 ks1 j1 hp1 hj1 hG; simp only [NT.min] at hp1; (conv => whnf)) | (refine tal_st (ihf.index _ _ _ _ _) hG (by trivial) rfl (by intro e he; first | exact hE e he | exact ⟨True.intro, hE e he⟩) (by omega) ?_; intro n1 l1 x1 o1 ks1 j1 hp1 hj1 hG; simp only [NT.min] at hp1; (conv => whnf)))
    | ((with_reducible refine tck 74 ?_); first | (refine lst_st ihf.clauses hG (by trivial) rfl (by intro e he; first | exact hE e he | exact ⟨True.intro, hE e he⟩) (by omega) ?_; intro l1 j1 hp1 hj1 hb1 hG; simp only [NT.acc, Option.getD_some, List.length_nil] at hb1; (conv => whnf)))
    | ((with_reducible refine tck 66 ?_); first | (refine rul_st (ihf.list _) hG (by trivial) rfl (by intro e he; first | exact hE e he | exact ⟨True.intro, hE e he⟩) (by omega) ?_; intro n1 l1 x1 o1 ks1 j1 hp1 hj1 hG; simp only [NT.min] at hp1; (conv => whnf)) | (refine tal_st (ihf.list _) hG (by trivial) rfl (by intro e he; first | exact hE e he | exact ⟨True.intro, hE e he⟩) (by omega) ?_; intro n1 l1 x1 o1 ks1 j1 hp1 hj1 hG; simp only [NT.min] at hp1; (conv => whnf)))
    | ((with_reducible refine tck 67 ?_); first | (refine rul_st (ihf.braces _) hG (by trivial) rfl (by intro e he; first | exact hE e he | exact ⟨True.intro, hE e he⟩) (by omega) ?_; intro n1 l1 x1 o1 ks1 j1 hp1 hj1 hG; simp only [NT.min] at hp1; (conv => whnf)) | (refine tal_st (ihf.braces _) hG (by trivial) rfl (by intro e he; first | exact hE e he | exact ⟨True.intro, hE e he⟩) (by omega) ?_; intro n1 l1 x1 o1 ks1 j1 hp1 hj1 hG; simp only [NT.min] at hp1; (conv => whnf)))
    | ((with_reducible refine tck 42 ?_); first | (refine rul_st (ihf.names _ _) hG (by trivial) rfl (by intro e he; first | exact hE e he | exact ⟨True.intro, hE e he⟩) (by omega) ?_; intro n1 l1 x1 o1 ks1 j1 hp1 hj1 hG; simp only [NT.min] at hp1; (conv => whnf)) | (refine tal_st (ihf.names _ _) hG (by trivial) rfl (by intro e he; first | exact hE e he | exact ⟨True.intro, hE e he⟩) (by omega) ?_; intro n1 l1 x1 o1 ks1 j1 hp1 hj1 hG; simp only [NT.min] at hp1; (conv => whnf)))
    | ((with_reducible refine tck 41 ?_); first | (refine rul_st (ihf.maybe _ _ _) hG (by trivial) rfl (by intro e he; first | exact hE e he | exact ⟨True.intro, hE e he⟩) (by omega) ?_; intro n1 l1 x1 o1 ks1 j1 hp1 hj1 hG; simp only [NT.min] at hp1; (conv => whnf)) | (refine tal_st (ihf.maybe _ _ _) hG (by trivial) rfl (by intro e he; first | exact hE e he | exact ⟨True.intro, hE e he⟩) (by omega) ?_; intro n1 l1 x1 o1 ks1 j1 hp1 hj1 hG; simp only [NT.min] at hp1; (conv => whnf)))
    | ((with_reducible refine tck 21 ?_); first | (refine rul_st (ihf.ifs _) hG (by trivial) rfl (by intro e he; first | exact hE e he | exact ⟨True.intro, hE e he⟩) (by omega) ?_; intro n1 l1 x1 o1 ks1 j1 hp1 hj1 hG; simp only [NT.min] at hp1; (conv => whnf)) | (refine tal_st (ihf.ifs _) hG (by trivial) rfl (by intro e he; first | exact hE e he | exact ⟨True.intro, hE e he⟩) (by omega) ?_; intro n1 l1 x1 o1 ks1 j1 hp1 hj1 hG; simp only [NT.min] at hp1; (conv => whnf)))
    | ((with_reducible refine tck 30 ?_); first | (refine rul_st (ihf.tries _) hG (by trivial) rfl (by intro e he; first | exact hE e he | exact ⟨True.intro, hE e he⟩) (by omega) ?_; intro n1 l1 x1 o1 ks1 j1 hp1 hj1 hG; simp only [NT.min] at hp1; (conv => whnf)) | (refine tal_st (ihf.tries _) hG (by trivial) rfl (by intro e he; first | exact hE e he | exact ⟨True.intro, hE e he⟩) (by omega) ?_; intro n1 l1 x1 o1 ks1 j1 hp1 hj1 hG; simp only [NT.min] at hp1; (conv => whnf)))
    | ((with_reducible refine tck 44 ?_); first | (refine single_st hG (fun hG => ?_) (fun hG => ?_) <;> (conv => whnf)))
    | ((with_reducible refine tck 51 ?_); first | (refine place_st hG (fun hG => ?_) (fun hG => ?_) <;> (conv => whnf)))
    | ((with_reducible refine tck 80 ?_); first | (refine operator_st C hG (by omega) (by intro e he; first | exact hE e he | exact ⟨True.intro, hE e he⟩) (fun hG => ?_) (fun op1 j1 hj0 hj1 hG => ?_) <;> (conv => whnf)))
    | ((with_reducible refine tck 55 ?_); first | (refine augment_st C hG (by omega) (fun ha hl hG => ?_) (fun hG => ?_) <;> (conv => whnf)))
    | ((with_reducible refine tck 37 ?_); first | (refine fail_st C (by omega) hG (by intro e he; first | exact hE e he | exact ⟨True.intro, hE e he⟩)))
    | (intro (hmx : _ ≤ maxLen); (conv => whnf))
    | exact ⟨m, [], by omega, rfl, _, _, _, _, _, _, rfl, by omega, by omega, hG⟩
    | exact ⟨m, [2], by omega, rfl, _, _, _, _, _, acc ++ [.mk n1 l1 x1 o1 ks1], _, _, (by rw [ndsS_snoc]; rfl), by omega, by omega, (by simp only [List.length_append, List.length_cons, List.length_nil]; omega), hG⟩
    | exact ⟨m, [2], by omega, rfl, _, _, _, accV_app rfl, rfl, by omega, by omega, (by simp only [List.length_append, List.length_cons, List.length_nil]; omega), hG⟩
    | exact ⟨m, [2], by omega, rfl, _, _, _, rfl, accV_app rfl, rfl, by omega, by omega, (by simp only [List.length_append, List.length_cons, List.length_nil]; omega), hG⟩
    | exact ⟨m, [3], by omega, rfl, _, _, _, rfl, accV_app rfl, rfl, by omega, by omega, (by simp only [List.length_append, List.length_cons, List.length_nil]; omega), hG⟩
    | exact ⟨m, [3], by omega, rfl, acc ++ [.mk 43 (nowT ts j).line [] (op1 + 1) [.mk n1 l1 x1 o1 ks1]], _, (by rw [ndsS_snoc]; rfl), by omega, by omega, (by simp only [List.length_append, List.length_cons, List.length_nil]; omega), hG⟩
    | (refine ifT_c (fun h => ?_) (fun h => ?_); (have : acc = [] := by cases acc; rfl; (simp [ndsS] at h <;> omega)); subst this; (conv => whnf); exact hQ _ _ hG (by omega); (have : acc.isEmpty = false := by cases acc; (simp [ndsS] at h <;> omega); rfl); rw [this] at hG; (conv => whnf); exact hQ _ _ hG (by omega))
    | exact ⟨m, [2], by omega, rfl, _, _, _, _, _, _, _, _, _, _, acc ++ [_, _], _, (by rw [ndsS_app]; rfl), by omega, by omega, (by simp only [List.length_append, List.length_cons, List.length_nil]; omega), hG⟩
    | exact ⟨m, [2], by omega, rfl, _, _, _, _, _, acc ++ [.mk n1 l1 x1 o1 ks1], _, _, (by rw [ndsS_snoc]; rfl), by omega, by omega, by simp, (by simp only [List.length_append, List.length_cons, List.length_nil]; omega), hG⟩
    | (refine ⟨rfl, acc.length - 1, _, wr_dec hne hmx, ndsS_get (last_get htl), ?_⟩; (conv => whnf))
    | exact ⟨m, [2], by omega, rfl, _, _, _, _, accV_app rfl, rfl, by omega, by omega, (by simp only [List.length_append, List.length_cons, List.length_nil] at *; omega), hG⟩
    | (refine ⟨rfl, 0, _, rfl, rfl, ?_⟩; (conv => whnf))
    | exact ⟨m, [4], by omega, rfl, acc ++ [Nd.mk 21 (nowT ts j).line [] 0 [Nd.mk n1 l1 x1 o1 ks1]], _, true, rfl, (by rw [ndsS_snoc]; rfl), by omega, by omega, (by simp only [List.length_append, List.length_cons, List.length_nil]; omega), (by simp only [List.length_append, List.length_cons, List.length_nil]; omega), .inr ⟨rfl, hG⟩⟩
    | exact ⟨m, [6], by omega, rfl, acc ++ [_], _, false, rfl, (by rw [ndsS_snoc]; rfl), by omega, by omega, (by simp only [List.length_append, List.length_cons, List.length_nil]; omega), (by simp only [List.length_append, List.length_cons, List.length_nil]; omega), .inl ⟨rfl, hG⟩⟩
    | (refine len1_c hG (by simp [ndsS_len]; try omega) (fun hG => ?_) (fun hG => ?_) <;> (conv => whnf))
    | (refine ifT_c (fun h => by exfalso; simp [ndsS_len] at h; first | omega | (subst h; simp at hb1)) (fun h => ?_); (conv => whnf))
    | exact ⟨m, [2], by omega, rfl, _, _, _, _, _, _, _, _, _, _, acc ++ [.mk n1 l1 x1 o1 ks1], _, _, (by rw [ndsS_snoc]; rfl), by omega, by omega, (by simp only [List.length_append, List.length_cons, List.length_nil]; omega), gd_pb1.2 hG⟩
    | exact hQ _ _ (gd_pk1 hG) (by omega)
    | (refine ⟨rfl, ?_⟩; (conv => whnf))
    | (refine ⟨bdA (by simp only [List.length_append, List.length_cons, List.length_nil, ndsS_len]; omega), ?_⟩; (conv => whnf))
    | exact hQ _ _ hG (by omega)
    | (refine tc_self (rd_wr C hl) ?_)
    | (refine ifT_c (fun h => by exfalso; simp at h; omega) (fun h => ?_); (conv => whnf))
    | (refine ifT_c (fun h => ?_) (fun h => by exfalso; simp at h; omega); (conv => whnf))
    | (refine q_eq ?_ ?_ (hQ _ _ hG (by omega)) <;> first | rfl | exact sn_agg rfl | exact sn_row rfl | exact rd_wr C hl)
    | (have hG := (hP2 _ _).1 hG; rcases f with _ | f; exact hG.elim; have ihf2 := ih f (by omega); simp only [gr] at hG)
    | (refine loop_0 (fun m s => ∃ k l x o ks j, s = ⟨0, [oR sl j, oN nzC, oN (nA k l x o ks)]⟩ ∧ j ≤ ts.length ∧ m ≤ f ∧ Gd E P (gr ts m (.orL (.mk k l x o ks)) j)) f [] rfl ⟨_, _, _, _, _, _, rfl, by omega, Nat.le_refl _, hG⟩ ?_; rintro m f1 s ⟨k, l, x, o, ks, j, rfl, hj, hmf, hG⟩; rcases m with _ | m; exact hG.elim; have ihf := ih m (by omega); simp only [gr] at hG; (conv => whnf))
    | (refine loop_0 (fun m s => ∃ k l x o ks j, s = ⟨0, [oR sl j, oN nzC, oN (nA k l x o ks)]⟩ ∧ j ≤ ts.length ∧ m ≤ f ∧ Gd E P (gr ts m (.andL (.mk k l x o ks)) j)) f [] rfl ⟨_, _, _, _, _, _, rfl, by omega, Nat.le_refl _, hG⟩ ?_; rintro m f1 s ⟨k, l, x, o, ks, j, rfl, hj, hmf, hG⟩; rcases m with _ | m; exact hG.elim; have ihf := ih m (by omega); simp only [gr] at hG; (conv => whnf))
    | (refine loop_0 (fun m s => ∃ k l x o ks j, s = ⟨0, [oR sl j, oN nzC, oN (nA k l x o ks)]⟩ ∧ j ≤ ts.length ∧ m ≤ f ∧ Gd E P (gr ts m (.arithL (.mk k l x o ks)) j)) f [] rfl ⟨_, _, _, _, _, _, rfl, by omega, Nat.le_refl _, hG⟩ ?_; rintro m f1 s ⟨k, l, x, o, ks, j, rfl, hj, hmf, hG⟩; rcases m with _ | m; exact hG.elim; have ihf := ih m (by omega); simp only [gr] at hG; (conv => whnf))
    | (refine loop_0 (fun m s => ∃ k l x o ks j, s = ⟨0, [oR sl j, oN nzC, oN (nA k l x o ks)]⟩ ∧ j ≤ ts.length ∧ m ≤ f ∧ Gd E P (gr ts m (.termL (.mk k l x o ks)) j)) f [] rfl ⟨_, _, _, _, _, _, rfl, by omega, Nat.le_refl _, hG⟩ ?_; rintro m f1 s ⟨k, l, x, o, ks, j, rfl, hj, hmf, hG⟩; rcases m with _ | m; exact hG.elim; have ihf := ih m (by omega); simp only [gr] at hG; (conv => whnf))
    | (refine loop_0 (fun m s => ∃ k l x o ks j, s = ⟨0, [oR sl j, oN nzC, oN (nA k l x o ks)]⟩ ∧ j ≤ ts.length ∧ m ≤ f ∧ Gd E P (gr ts m (.primL (.mk k l x o ks)) j)) f [] rfl ⟨_, _, _, _, _, _, rfl, by omega, Nat.le_refl _, hG⟩ ?_; rintro m f1 s ⟨k, l, x, o, ks, j, rfl, hj, hmf, hG⟩; rcases m with _ | m; exact hG.elim; have ihf := ih m (by omega); simp only [gr] at hG; (conv => whnf))
    | (refine loop_0 (fun m s => ∃ k l x o ks acc j ln, s = ⟨1, [oR sl j, oN nzC, oN (nA k l x o ks), oN (nC 52 ln [] 0 (.own 0 28 5 (ndsS acc)))]⟩ ∧ j ≤ ts.length ∧ m ≤ f ∧ 2 * acc.length ≤ j + 1 ∧ Gd E P (gr ts m (.exprsL ln acc) j)) f [0] rfl ⟨_, _, _, _, _, [.mk n1 l1 x1 o1 ks1], _, _, rfl, by omega, Nat.le_refl _, by simp only [List.length_cons, List.length_nil]; omega, hG⟩ ?_; rintro m f1 s ⟨k, l, x, o, ks, acc, j, ln, rfl, hj, hmf, hb2, hG⟩; rcases m with _ | m; exact hG.elim; have ihf := ih m (by omega); simp only [gr] at hG; (conv => whnf))
    | (refine loop_0 (fun m s => ∃ k l x o ks acc j ln, s = ⟨1, [oR sl j, oN nzC, oN (nA k l x o ks), oN (nC 52 ln [] 0 (.own 0 28 5 (ndsS acc)))]⟩ ∧ j ≤ ts.length ∧ m ≤ f ∧ 2 * acc.length ≤ j + 1 ∧ Gd E P (gr ts m (.placesL ln acc) j)) f [0] rfl ⟨_, _, _, _, _, [.mk n1 l1 x1 o1 ks1], _, _, rfl, by omega, Nat.le_refl _, by simp only [List.length_cons, List.length_nil]; omega, hG⟩ ?_; rintro m f1 s ⟨k, l, x, o, ks, acc, j, ln, rfl, hj, hmf, hb2, hG⟩; rcases m with _ | m; exact hG.elim; have ihf := ih m (by omega); simp only [gr] at hG; simp only [ite_andP] at hG; (conv => whnf))
    | (refine loop_0 (fun m s => ∃ acc j c, AccV acc c ∧ s = ⟨1, [oR sl j, oN nzC, oN (nC k ln [] 0 c)]⟩ ∧ j ≤ ts.length ∧ m ≤ f + 1 ∧ 2 * acc.length ≤ j ∧ Gd E P (gr ts m (.names k ln acc) j)) (f + 1) [99] rfl ⟨[], _, _, .inl ⟨rfl, rfl⟩, rfl, by omega, Nat.le_refl _, by simp only [List.length_nil]; omega, hG0⟩ ?_; rintro m f1 s ⟨acc, j, c, hA, rfl, hj, hmf, hb2, hG⟩; rcases m with _ | m; exact hG.elim; have ihf := ih m (by omega); simp only [gr] at hG; rcases hA with ⟨rfl, rfl⟩ | ⟨hne, rfl⟩; all_goals (conv => whnf))
    | (refine loop_0 (fun m s => ∃ acc j c, AccV acc c ∧ s = ⟨1, [oR sl j, oN nzC, oN (nC 23 ln [] 0 c)]⟩ ∧ j ≤ ts.length ∧ m ≤ f + 1 ∧ 2 * acc.length ≤ j ∧ Gd E P (gr ts m (.params cl ln acc) j)) (f + 1) [99] rfl ⟨[], _, _, .inl ⟨rfl, rfl⟩, rfl, by omega, Nat.le_refl _, by simp only [List.length_nil]; omega, hG0⟩ ?_; rintro m f1 s ⟨acc, j, c, hA, rfl, hj, hmf, hb2, hG⟩; rcases m with _ | m; exact hG.elim; have ihf := ih m (by omega); simp only [gr] at hG; rcases hA with ⟨rfl, rfl⟩ | ⟨hne, rfl⟩; all_goals (conv => whnf))
    | (refine loop_1 5 (fun m a s => ∃ acc j c, a = .r (.c c) ∧ AccV acc c ∧ s = ⟨1, [oR sl j]⟩ ∧ j ≤ ts.length ∧ m ≤ f + 1 ∧ 2 * acc.length ≤ j ∧ Gd E P (gr ts m (.row cl acc) j)) (f + 1) [99] rfl ⟨[], _, _, rfl, .inl ⟨rfl, rfl⟩, rfl, by omega, Nat.le_refl _, by simp only [List.length_nil]; omega, hG0⟩ ?_; rintro m a f1 s ⟨acc, j, c, rfl, hA, rfl, hj, hmf, hb2, hG⟩; rcases m with _ | m; exact hG.elim; have ihf := ih m (by omega); simp only [gr] at hG; rcases hA with ⟨rfl, rfl⟩ | ⟨hne, rfl⟩; all_goals (conv => whnf))
    | (refine loop_1 3 (fun m a s => ∃ acc j c, a = .r (.c c) ∧ AccV acc c ∧ s = ⟨1, [oR sl j]⟩ ∧ j ≤ ts.length ∧ m ≤ f + 1 ∧ 2 * acc.length ≤ j ∧ Gd E P (gr ts m (.clauses acc) j)) (f + 1) [99] rfl ⟨[], _, _, rfl, .inl ⟨rfl, rfl⟩, rfl, by omega, Nat.le_refl _, by simp only [List.length_nil]; omega, hG0⟩ ?_; rintro m a f1 s ⟨acc, j, c, rfl, hA, rfl, hj, hmf, hb2, hG⟩; rcases m with _ | m; exact hG.elim; have ihf := ih m (by omega); simp only [gr] at hG; rcases hA with ⟨rfl, rfl⟩ | ⟨hne, rfl⟩; all_goals (conv => whnf))
    | (refine loop_0 (fun m s => ∃ acc j, s = ⟨1, [oR sl j, oN nzC, oN (nA n1 l1 x1 o1 ks1), oN (nC 42 l1 [] 0 (.own 0 28 5 (ndS (.mk n1 l1 x1 o1 ks1) :: ndsS acc)))]⟩ ∧ j ≤ ts.length ∧ m ≤ f ∧ 2 * acc.length + 1 ≤ j ∧ Gd E P (gr ts m (.cmpL (.mk n1 l1 x1 o1 ks1) acc) j)) f [0] rfl ⟨[], _, rfl, by omega, Nat.le_refl _, by simp only [List.length_nil]; omega, hG⟩ ?_; rintro m f1 s ⟨acc, j, rfl, hj, hmf, hb2, hG⟩; rcases m with _ | m; exact hG.elim; have ihf := ih m (by omega); simp only [gr] at hG; (conv => whnf))
    | (refine loop_0 (fun m s => ∃ ke le xe oe kse kv lv xv ov ksv acc j, s = ⟨1, [oR sl j, oN nzC, oN (nA ke le xe oe kse), oN (nA kv lv xv ov ksv), oN (nC 54 ln [] 0 (.own 0 28 5 (ndsS acc)))]⟩ ∧ j ≤ ts.length ∧ m ≤ f ∧ 2 * acc.length ≤ j + 1 ∧ Gd E P (gr ts m (.dictL ln acc) j)) f [0] rfl ⟨_, _, _, _, _, _, _, _, _, _, [_, _], _, rfl, by omega, Nat.le_refl _, by simp only [List.length_cons, List.length_nil]; omega, hG⟩ ?_; rintro m f1 s ⟨ke, le, xe, oe, kse, kv, lv, xv, ov, ksv, acc, j, rfl, hj, hmf, hb2, hG⟩; rcases m with _ | m; exact hG.elim; have ihf := ih m (by omega); simp only [gr] at hG; (conv => whnf))
    | (refine loop_0 (fun m s => ∃ k l x o ks acc j ln, s = ⟨1, [oR sl j, oN nzC, oN (nA k l x o ks), oN (nC 3 ln [] 0 (.own 0 28 5 (ndsS acc)))]⟩ ∧ j ≤ ts.length ∧ m ≤ f ∧ acc ≠ [] ∧ 2 * acc.length ≤ j + 1 ∧ Gd E P (gr ts m (.asgL ln acc) j)) f [0] rfl ⟨_, _, _, _, _, [.mk n1 l1 x1 o1 ks1], _, _, rfl, by omega, Nat.le_refl _, by simp, by simp only [List.length_cons, List.length_nil]; omega, hG⟩ ?_; rintro m f1 s ⟨k, l, x, o, ks, acc, j, ln, rfl, hj, hmf, hne, hb2, hG⟩; rcases m with _ | m; exact hG.elim; have ihf := ih m (by omega); obtain ⟨⟨k2, l2, x2, o2, ks2⟩, htl⟩ := last_ne hne; simp only [gr, htl] at hG; (conv => whnf))
    | (refine loop_0 (fun m s => ∃ acc j c ln, AccV acc c ∧ s = ⟨1, [oR sl j, oN nzC, oN (nC 1 ln [] 0 c)]⟩ ∧ j ≤ ts.length ∧ m ≤ f ∧ 2 * acc.length ≤ j ∧ Gd E P (gr ts m (.blockL acc) j)) f [99] rfl ⟨[], _, _, _, .inl ⟨rfl, rfl⟩, rfl, by omega, Nat.le_refl _, by simp only [List.length_nil]; omega, hG⟩ ?_; rintro m f1 s ⟨acc, j, c, ln, hA, rfl, hj, hmf, hb2, hG⟩; rcases m with _ | m; exact hG.elim; have ihf := ih m (by omega); simp only [gr] at hG; rcases hA with ⟨rfl, rfl⟩ | ⟨hne, rfl⟩; rotate_left; rcases acc with _ | ⟨⟨k2, l2, x2, o2, ks2⟩, acc⟩; exact absurd rfl hne; all_goals (try simp only [List.length_cons, List.length_nil] at hb2); all_goals (conv => whnf))
    | (obtain ⟨P2, hP2⟩ : ∃ P2 : List Nd → Nat → Prop, ∀ acc j, P2 acc j ↔ Gd E P (gr ts f (.triesF ln acc) j) := ⟨_, fun _ _ => Iff.rfl⟩; have hG : Gd E P2 (gr ts f (.triesL [.mk n1 l1 x1 o1 ks1]) j1) := (gd_pb.1 hG).mono (fun _ h => h) fun l j h => (hP2 l j).2 h; refine loop_1 6 (fun m a s => ∃ acc j b, a = rS (.bool b) ∧ s = ⟨1, [oR sl j, oN nzC, oN (nC 15 ln [] 0 (.own 0 28 5 (ndsS acc)))]⟩ ∧ j ≤ ts.length ∧ m ≤ f ∧ 1 ≤ acc.length ∧ 2 * acc.length ≤ j + 1 ∧ ((b = false ∧ Gd E P2 (gr ts m (.triesL acc) j)) ∨ (b = true ∧ P2 acc j))) f [0] rfl ⟨[.mk n1 l1 x1 o1 ks1], _, false, rfl, rfl, by omega, Nat.le_refl _, Nat.le_refl _, by simp only [List.length_cons, List.length_nil]; omega, .inl ⟨rfl, hG⟩⟩ ?_; rintro m a f1 s ⟨acc, j, b, rfl, rfl, hj, hmf, hb1, hb2, ⟨rfl, hG⟩ | ⟨rfl, hG⟩⟩; rcases m with _ | m; exact hG.elim; have ihf := ih m (by omega); simp only [gr] at hG; (conv => whnf); rotate_left; have hG := (hP2 _ _).1 hG; rcases f with _ | f; exact hG.elim; simp only [gr] at hG; have ihf := ih f (by omega); (conv => whnf))
    | (refine loop_0 (fun m s => ∃ km lm xm om ksm kl ll xl ol ksl acc j ln, s = ⟨1, [oR sl j, oN (nA k l x o ks), oN nzC, oN (nA km lm xm om ksm), oN (nA kl ll xl ol ksl), oN (nC 52 ln [] 0 (.own 0 28 5 (ndsS acc)))]⟩ ∧ j ≤ ts.length ∧ m ≤ f ∧ 2 * acc.length ≤ j + 1 ∧ Gd E P (pb1 (gr ts m (.exprsL ln acc) j) fun t j2 => pk1 (nd 46 l [.mk k l x o ks, t]) j2)) f [0] rfl ⟨_, _, _, _, [], _, _, _, _, _, [.mk n1 l1 x1 o1 ks1], _, _, rfl, by omega, Nat.le_refl _, by simp only [List.length_cons, List.length_nil]; omega, hG⟩ ?_; rintro m f1 s ⟨km, lm, xm, om, ksm, kl, ll, xl, ol, ksl, acc, j, ln, rfl, hj, hmf, hb2, hG⟩; have hG := gd_pb1.1 hG; rcases m with _ | m; exact hG.elim; have ihf := ih m (by omega); simp only [gr] at hG; (conv => whnf))) : Pz := hz
section
variable {Z : TP} {X : Pan} {W : Int → Value} {ts : List PT} {sl : Sl} {f : Nat}
set_option maxHeartbeats 8000000 in
theorem pw_expr (C : PCtx Z X W ts sl) (ih : ∀ g, g ≤ f → PAll Z X W ts sl g) : PC Z X W ts sl (f + 1) .expr 22 [.ptr 0 0] ans1 := by
  intro i Q R E P hi hG hE hQ
  have ihf := ih f (Nat.le_refl f)
  have hln := C.len
  have hG0 := hG
  simp only [gr] at hG
  refine tc_rG dt_ok (by rfl) (by kernel_rfl) ?_
  conv in (rF _ _).body => reduce
  conv in (rF _ _).res => reduce
  conv => whnf
  exact pw_go
set_option maxHeartbeats 8000000 in
theorem pw_or (C : PCtx Z X W ts sl) (ih : ∀ g, g ≤ f → PAll Z X W ts sl g) : PC Z X W ts sl (f + 1) .or 36 [.ptr 0 0] ans1 := by
  intro i Q R E P hi hG hE hQ
  have ihf := ih f (Nat.le_refl f)
  have hln := C.len
  have hG0 := hG
  simp only [gr] at hG
  refine tc_rG dt_ok (by rfl) (by kernel_rfl) ?_
  conv in (rF _ _).body => reduce
  conv in (rF _ _).res => reduce
  conv => whnf
  exact pw_go
set_option maxHeartbeats 8000000 in
theorem pw_and (C : PCtx Z X W ts sl) (ih : ∀ g, g ≤ f → PAll Z X W ts sl g) : PC Z X W ts sl (f + 1) .and 50 [.ptr 0 0] ans1 := by
  intro i Q R E P hi hG hE hQ
  have ihf := ih f (Nat.le_refl f)
  have hln := C.len
  have hG0 := hG
  simp only [gr] at hG
  refine tc_rG dt_ok (by rfl) (by kernel_rfl) ?_
  conv in (rF _ _).body => reduce
  conv in (rF _ _).res => reduce
  conv => whnf
  exact pw_go
set_option maxHeartbeats 8000000 in
theorem pw_not (C : PCtx Z X W ts sl) (ih : ∀ g, g ≤ f → PAll Z X W ts sl g) : PC Z X W ts sl (f + 1) .not 64 [.ptr 0 0] ans1 := by
  intro i Q R E P hi hG hE hQ
  have ihf := ih f (Nat.le_refl f)
  have hln := C.len
  have hG0 := hG
  simp only [gr] at hG
  refine tc_rG dt_ok (by rfl) (by kernel_rfl) ?_
  conv in (rF _ _).body => reduce
  conv in (rF _ _).res => reduce
  conv => whnf
  exact pw_go
set_option maxHeartbeats 8000000 in
theorem pw_compare (C : PCtx Z X W ts sl) (ih : ∀ g, g ≤ f → PAll Z X W ts sl g) : PC Z X W ts sl (f + 1) .compare 73 [.ptr 0 0] ans1 := by
  intro i Q R E P hi hG hE hQ
  have ihf := ih f (Nat.le_refl f)
  have hln := C.len
  have hG0 := hG
  simp only [gr] at hG
  refine tc_rG dt_ok (by rfl) (by kernel_rfl) ?_
  conv in (rF _ _).body => reduce
  conv in (rF _ _).res => reduce
  conv => whnf
  exact pw_go
set_option maxHeartbeats 8000000 in
theorem pw_arith (C : PCtx Z X W ts sl) (ih : ∀ g, g ≤ f → PAll Z X W ts sl g) : PC Z X W ts sl (f + 1) .arith 79 [.ptr 0 0] ans1 := by
  intro i Q R E P hi hG hE hQ
  have ihf := ih f (Nat.le_refl f)
  have hln := C.len
  have hG0 := hG
  simp only [gr] at hG
  refine tc_rG dt_ok (by rfl) (by kernel_rfl) ?_
  conv in (rF _ _).body => reduce
  conv in (rF _ _).res => reduce
  conv => whnf
  exact pw_go
set_option maxHeartbeats 8000000 in
theorem pw_term (C : PCtx Z X W ts sl) (ih : ∀ g, g ≤ f → PAll Z X W ts sl g) : PC Z X W ts sl (f + 1) .term 83 [.ptr 0 0] ans1 := by
  intro i Q R E P hi hG hE hQ
  have ihf := ih f (Nat.le_refl f)
  have hln := C.len
  have hG0 := hG
  simp only [gr] at hG
  refine tc_rG dt_ok (by rfl) (by kernel_rfl) ?_
  conv in (rF _ _).body => reduce
  conv in (rF _ _).res => reduce
  conv => whnf
  exact pw_go
set_option maxHeartbeats 8000000 in
theorem pw_factor (C : PCtx Z X W ts sl) (ih : ∀ g, g ≤ f → PAll Z X W ts sl g) : PC Z X W ts sl (f + 1) .factor 87 [.ptr 0 0] ans1 := by
  intro i Q R E P hi hG hE hQ
  have ihf := ih f (Nat.le_refl f)
  have hln := C.len
  have hG0 := hG
  simp only [gr] at hG
  refine tc_rG dt_ok (by rfl) (by kernel_rfl) ?_
  conv in (rF _ _).body => reduce
  conv in (rF _ _).res => reduce
  conv => whnf
  exact pw_go
set_option maxHeartbeats 8000000 in
theorem pw_primary (C : PCtx Z X W ts sl) (ih : ∀ g, g ≤ f → PAll Z X W ts sl g) : PC Z X W ts sl (f + 1) .primary 43 [.ptr 0 0] ans1 := by
  intro i Q R E P hi hG hE hQ
  have ihf := ih f (Nat.le_refl f)
  have hln := C.len
  have hG0 := hG
  simp only [gr] at hG
  refine tc_rG dt_ok (by rfl) (by kernel_rfl) ?_
  conv in (rF _ _).body => reduce
  conv in (rF _ _).res => reduce
  conv => whnf
  exact pw_go
set_option maxHeartbeats 8000000 in
theorem pw_atom (C : PCtx Z X W ts sl) (ih : ∀ g, g ≤ f → PAll Z X W ts sl g) : PC Z X W ts sl (f + 1) .atom 52 [.ptr 0 0] ans1 := by
  intro i Q R E P hi hG hE hQ
  have ihf := ih f (Nat.le_refl f)
  have hln := C.len
  simp only [gr] at hG
  refine tc_rG dt_ok (by rfl) (by kernel_rfl) ?_
  conv in (rF _ _).body => reduce
  conv in (rF _ _).res => reduce
  conv => whnf
  refine now_tc C (by omega) ?_
  obtain ⟨t, ht⟩ : ∃ t, nowT ts i = t := ⟨_, rfl⟩
  have hlk : (nowT ts i).kind ≠ 0 → i < ts.length := kd_lt
  rw [ht] at hG hlk ⊢
  obtain ⟨kd, lt, xt⟩ := t
  by_cases hk : 4 ≤ kd ∧ kd ≤ 7
  · have hl : i < ts.length := hlk (by show kd ≠ 0; omega)
    rw [if_pos hk] at hG
    obtain rfl | rfl | rfl | rfl : kd = 4 ∨ kd = 5 ∨ kd = 6 ∨ kd = 7 := by omega
    all_goals
      (conv => whnf)
      refine leaf_tc hk.1 hk.2 ?_
      (conv => whnf)
      repeat (refine ⟨rfl, ?_⟩; (conv => whnf))
      exact q_eq rfl (rd_wr C hl) (hQ _ _ hG (by omega))
  · rw [if_neg hk] at hG
    (conv => whnf)
    exact pw_go
set_option maxHeartbeats 8000000 in
theorem pw_exprs (C : PCtx Z X W ts sl) (ih : ∀ g, g ≤ f → PAll Z X W ts sl g) : PC Z X W ts sl (f + 1) .exprs 26 [.ptr 0 0] ans1 := by
  intro i Q R E P hi hG hE hQ
  have ihf := ih f (Nat.le_refl f)
  have hln := C.len
  have hG0 := hG
  simp only [gr] at hG
  refine tc_rG dt_ok (by rfl) (by kernel_rfl) ?_
  conv in (rF _ _).body => reduce
  conv in (rF _ _).res => reduce
  conv => whnf
  exact pw_go
set_option maxHeartbeats 8000000 in
theorem pw_one (C : PCtx Z X W ts sl) (ih : ∀ g, g ≤ f → PAll Z X W ts sl g) : PC Z X W ts sl (f + 1) .one 39 [.ptr 0 0] ans1 := by
  intro i Q R E P hi hG hE hQ
  have ihf := ih f (Nat.le_refl f)
  have hln := C.len
  have hG0 := hG
  simp only [gr] at hG
  refine tc_rG dt_ok (by rfl) (by kernel_rfl) ?_
  conv in (rF _ _).body => reduce
  conv in (rF _ _).res => reduce
  conv => whnf
  exact pw_go
set_option maxHeartbeats 8000000 in
theorem pw_places (C : PCtx Z X W ts sl) (ih : ∀ g, g ≤ f → PAll Z X W ts sl g) : PC Z X W ts sl (f + 1) .places 25 [.ptr 0 0] ans1 := by
  intro i Q R E P hi hG hE hQ
  have ihf := ih f (Nat.le_refl f)
  have hln := C.len
  have hG0 := hG
  simp only [gr] at hG
  refine tc_rG dt_ok (by rfl) (by kernel_rfl) ?_
  conv in (rF _ _).body => reduce
  conv in (rF _ _).res => reduce
  conv => whnf
  exact pw_go
set_option maxHeartbeats 8000000 in
theorem pw_simple (C : PCtx Z X W ts sl) (ih : ∀ g, g ≤ f → PAll Z X W ts sl g) : PC Z X W ts sl (f + 1) .simple 31 [.ptr 0 0] ans1 := by
  intro i Q R E P hi hG hE hQ
  have ihf := ih f (Nat.le_refl f)
  have hln := C.len
  have hG0 := hG
  simp only [gr] at hG
  refine tc_rG dt_ok (by rfl) (by kernel_rfl) ?_
  conv in (rF _ _).body => reduce
  conv in (rF _ _).res => reduce
  conv => whnf
  exact pw_go
set_option maxHeartbeats 8000000 in
theorem pw_plain (C : PCtx Z X W ts sl) (ih : ∀ g, g ≤ f → PAll Z X W ts sl g) : PC Z X W ts sl (f + 1) .plain 45 [.ptr 0 0] ans1 := by
  intro i Q R E P hi hG hE hQ
  have ihf := ih f (Nat.le_refl f)
  have hln := C.len
  have hG0 := hG
  simp only [gr] at hG
  refine tc_rG dt_ok (by rfl) (by kernel_rfl) ?_
  conv in (rF _ _).body => reduce
  conv in (rF _ _).res => reduce
  conv => whnf
  exact pw_go
set_option maxHeartbeats 8000000 in
theorem pw_value (C : PCtx Z X W ts sl) (ih : ∀ g, g ≤ f → PAll Z X W ts sl g) : PC Z X W ts sl (f + 1) .value 54 [.ptr 0 0] ans1 := by
  intro i Q R E P hi hG hE hQ
  have ihf := ih f (Nat.le_refl f)
  have hln := C.len
  have hG0 := hG
  simp only [gr] at hG
  refine tc_rG dt_ok (by rfl) (by kernel_rfl) ?_
  conv in (rF _ _).body => reduce
  conv in (rF _ _).res => reduce
  conv => whnf
  exact pw_go
set_option maxHeartbeats 8000000 in
theorem pw_block (C : PCtx Z X W ts sl) (ih : ∀ g, g ≤ f → PAll Z X W ts sl g) : PC Z X W ts sl (f + 1) .block 24 [.ptr 0 0] ans1 := by
  intro i Q R E P hi hG hE hQ
  have ihf := ih f (Nat.le_refl f)
  have hln := C.len
  have hG0 := hG
  simp only [gr] at hG
  refine tc_rG dt_ok (by rfl) (by kernel_rfl) ?_
  conv in (rF _ _).body => reduce
  conv in (rF _ _).res => reduce
  conv => whnf
  exact pw_go
set_option maxHeartbeats 8000000 in
theorem pw_stmt (C : PCtx Z X W ts sl) (ih : ∀ g, g ≤ f → PAll Z X W ts sl g) : PC Z X W ts sl (f + 1) .stmt 17 [.ptr 0 0] ans1 := by
  intro i Q R E P hi hG hE hQ
  have ihf := ih f (Nat.le_refl f)
  have hln := C.len
  have hG0 := hG
  simp only [gr] at hG
  refine tc_rG dt_ok (by rfl) (by kernel_rfl) ?_
  conv in (rF _ _).body => reduce
  conv in (rF _ _).res => reduce
  conv => whnf
  exact pw_go
set_option maxHeartbeats 8000000 in
theorem pw_params (C : PCtx Z X W ts sl) (ih : ∀ g, g ≤ f → PAll Z X W ts sl g) : ∀ (cl : List UInt8) (ln : Int), cl ≠ [] → PC Z X W ts sl (f + 1) (.params cl ln []) 28 [.ptr 0 0, rS (.int .i64 ln), rS (.string ⟨⟨cl⟩⟩)] ans1 := by
  intro cl ln cl_ne i Q R E P hi hG hE hQ
  have ihf := ih f (Nat.le_refl f)
  have hln := C.len
  have hG0 := hG
  simp only [gr] at hG
  refine tc_rG dt_ok (by rfl) (by kernel_rfl) ?_
  conv in (rF _ _).body => reduce
  conv in (rF _ _).res => reduce
  conv => whnf
  exact pw_go
set_option maxHeartbeats 8000000 in
theorem pw_row (C : PCtx Z X W ts sl) (ih : ∀ g, g ≤ f → PAll Z X W ts sl g) : ∀ (cl : List UInt8), cl ≠ [] → PC Z X W ts sl (f + 1) (.row cl []) 29 [.ptr 0 0, rS (.string ⟨⟨cl⟩⟩)] ansL := by
  intro cl cl_ne i Q R E P hi hG hE hQ
  have ihf := ih f (Nat.le_refl f)
  have hln := C.len
  have hG0 := hG
  simp only [gr] at hG
  refine tc_rG dt_ok (by rfl) (by kernel_rfl) ?_
  conv in (rF _ _).body => reduce
  conv in (rF _ _).res => reduce
  conv => whnf
  exact pw_go
set_option maxHeartbeats 8000000 in
theorem pw_index (C : PCtx Z X W ts sl) (ih : ∀ g, g ≤ f → PAll Z X W ts sl g) : ∀ (k : Nat) (l : Int) (x : List UInt8) (o : Nat) (ks : List Nd), PC Z X W ts sl (f + 1) (.index (.mk k l x o ks)) 53 [.ptr 0 0, ndA (.mk k l x o ks)] ans1 := by
  intro k l x o ks i Q R E P hi hG hE hQ
  have ihf := ih f (Nat.le_refl f)
  have hln := C.len
  have hG0 := hG
  simp only [gr] at hG
  refine tc_rG dt_ok (by rfl) (by kernel_rfl) ?_
  conv in (rF _ _).body => reduce
  conv in (rF _ _).res => reduce
  conv => whnf
  exact pw_go
set_option maxHeartbeats 8000000 in
theorem pw_clauses (C : PCtx Z X W ts sl) (ih : ∀ g, g ≤ f → PAll Z X W ts sl g) : PC Z X W ts sl (f + 1) (.clauses []) 74 [.ptr 0 0] ansL := by
  intro i Q R E P hi hG hE hQ
  have ihf := ih f (Nat.le_refl f)
  have hln := C.len
  have hG0 := hG
  simp only [gr] at hG
  refine tc_rG dt_ok (by rfl) (by kernel_rfl) ?_
  conv in (rF _ _).body => reduce
  conv in (rF _ _).res => reduce
  conv => whnf
  exact pw_go
set_option maxHeartbeats 8000000 in
theorem pw_list (C : PCtx Z X W ts sl) (ih : ∀ g, g ≤ f → PAll Z X W ts sl g) : ∀ (ln : Int), PC Z X W ts sl (f + 1) (.list ln) 66 [.ptr 0 0, rS (.int .i64 ln)] ans1 := by
  intro ln i Q R E P hi hG hE hQ
  have ihf := ih f (Nat.le_refl f)
  have hln := C.len
  have hG0 := hG
  simp only [gr] at hG
  refine tc_rG dt_ok (by rfl) (by kernel_rfl) ?_
  conv in (rF _ _).body => reduce
  conv in (rF _ _).res => reduce
  conv => whnf
  exact pw_go
set_option maxHeartbeats 8000000 in
theorem pw_braces (C : PCtx Z X W ts sl) (ih : ∀ g, g ≤ f → PAll Z X W ts sl g) : ∀ (ln : Int), PC Z X W ts sl (f + 1) (.braces ln) 67 [.ptr 0 0, rS (.int .i64 ln)] ans1 := by
  intro ln i Q R E P hi hG hE hQ
  have ihf := ih f (Nat.le_refl f)
  have hln := C.len
  have hG0 := hG
  simp only [gr] at hG
  refine tc_rG dt_ok (by rfl) (by kernel_rfl) ?_
  conv in (rF _ _).body => reduce
  conv in (rF _ _).res => reduce
  conv => whnf
  exact pw_go
set_option maxHeartbeats 8000000 in
theorem pw_names (C : PCtx Z X W ts sl) (ih : ∀ g, g ≤ f → PAll Z X W ts sl g) : ∀ (k : Nat) (ln : Int), PC Z X W ts sl (f + 1) (.names k ln []) 42 [.ptr 0 0, rS (.int .i64 (k : Nat)), rS (.int .i64 ln)] ans1 := by
  intro k ln i Q R E P hi hG hE hQ
  have ihf := ih f (Nat.le_refl f)
  have hln := C.len
  have hG0 := hG
  simp only [gr] at hG
  refine tc_rG dt_ok (by rfl) (by kernel_rfl) ?_
  conv in (rF _ _).body => reduce
  conv in (rF _ _).res => reduce
  conv => whnf
  exact pw_go
set_option maxHeartbeats 8000000 in
theorem pw_maybe (C : PCtx Z X W ts sl) (ih : ∀ g, g ≤ f → PAll Z X W ts sl g) : ∀ (k : Nat) (ln : Int) (all : Bool), PC Z X W ts sl (f + 1) (.maybe k ln all) 41 [.ptr 0 0, rS (.int .i64 (k : Nat)), rS (.int .i64 ln), rS (.bool all)] ans1 := by
  intro k ln all i Q R E P hi hG hE hQ
  have ihf := ih f (Nat.le_refl f)
  have hln := C.len
  simp only [gr] at hG
  cases all
  all_goals simp only [Bool.false_eq_true, if_false, if_true] at hG
  all_goals
    refine tc_rG dt_ok (by rfl) (by kernel_rfl) ?_
    conv in (rF _ _).body => reduce
    conv in (rF _ _).res => reduce
    conv => whnf
    exact pw_go
set_option maxHeartbeats 8000000 in
theorem pw_ifs (C : PCtx Z X W ts sl) (ih : ∀ g, g ≤ f → PAll Z X W ts sl g) : ∀ (ln : Int), PC Z X W ts sl (f + 1) (.ifs ln) 21 [.ptr 0 0, rS (.int .i64 ln)] ans1 := by
  intro ln i Q R E P hi hG hE hQ
  have ihf := ih f (Nat.le_refl f)
  have hln := C.len
  have hG0 := hG
  simp only [gr] at hG
  refine tc_rG dt_ok (by rfl) (by kernel_rfl) ?_
  conv in (rF _ _).body => reduce
  conv in (rF _ _).res => reduce
  conv => whnf
  exact pw_go
set_option maxHeartbeats 8000000 in
theorem pw_tries (C : PCtx Z X W ts sl) (ih : ∀ g, g ≤ f → PAll Z X W ts sl g) : ∀ (ln : Int), PC Z X W ts sl (f + 1) (.tries ln) 30 [.ptr 0 0, rS (.int .i64 ln)] ans1 := by
  intro ln i Q R E P hi hG hE hQ
  have ihf := ih f (Nat.le_refl f)
  have hln := C.len
  have hG0 := hG
  simp only [gr] at hG
  refine tc_rG dt_ok (by rfl) (by kernel_rfl) ?_
  conv in (rF _ _).body => reduce
  conv in (rF _ _).res => reduce
  conv => whnf
  exact pw_go
end
end Can
end Go.Proofs.Ytnkfdkfmdeibfaa
end
section
namespace Go.Proofs.Ytnkfdkfmdeibfaa
namespace Can
open Go Go.RowKit
set_option linter.unusedSimpArgs false
set_option linter.unusedVariables false
set_option maxRecDepth 4000
attribute [local irreducible] TC isT nowT begT placeN
section
variable {Z : TP} {X : Pan} {W : Int → Value} {ts : List PT} {sl : Sl} {f : Nat}
theorem pall0 : PAll Z X W ts sl 0 := by
  constructor
  all_goals (intros; intro i Q R E P hi hG hE hQ; exact hG.elim)
theorem palls (C : PCtx Z X W ts sl) (ih : ∀ g, g ≤ f → PAll Z X W ts sl g) : PAll Z X W ts sl (f + 1) := ⟨pw_expr C ih, pw_or C ih, pw_and C ih, pw_not C ih, pw_compare C ih, pw_arith C ih, pw_term C ih, pw_factor C ih, pw_primary C ih, pw_atom C ih, pw_exprs C ih, pw_one C ih, pw_places C ih, pw_simple C ih, pw_plain C ih, pw_value C ih, pw_block C ih, pw_stmt C ih, pw_params C ih, pw_row C ih, pw_index C ih, pw_clauses C ih, pw_list C ih, pw_braces C ih, pw_names C ih, pw_maybe C ih, pw_ifs C ih, pw_tries C ih⟩
theorem pall (C : PCtx Z X W ts sl) : ∀ f, PAll Z X W ts sl f := by
  intro f
  induction f using Nat.strongRecOn with
  | _ f ih =>
    cases f with
    | zero => exact pall0
    | succ f => exact palls C fun g hg => ih g (by omega)
end
end Can
end Go.Proofs.Ytnkfdkfmdeibfaa
end
section
namespace Go.Proofs.Ytnkfdkfmdeibfaa
namespace Can
open Go Go.RowKit
set_option linter.unusedSimpArgs false
set_option linter.unusedVariables false
set_option maxRecDepth 4000
def zNd : Nd := .mk 0 0 [] 0 []
def parseT (ts : List PT) : Nd × Int × Int := match gr ts (ts.length * 64 + 100) (.top []) 0 with
  | some (.ok (l, _)) => if 60 < htL l + 1 then (zNd, 0, 11) else (nd 1 (hdLine (nowT ts 0).line l) l, 0, 0)
  | some (.error e) => (zNd, (nowT ts e).line, 22)
  | none => (zNd, 0, 0)
noncomputable def prP : List Item × List Item × RCode × RCode × RCode := match (rF Try.prog 8).body with
  | .seq (.reg a) (.seq (.reg b) (.seq .bad (.seq c (.seq d e)))) => (a, b, c, d, e)
  | _ => ([], [], .skip, .skip, .skip)
theorem pr_body : (rF Try.prog 8).body = .seq (.reg prP.1) (.seq (.reg prP.2.1) (.seq .bad (.seq prP.2.2.1 (.seq prP.2.2.2.1 prP.2.2.2.2)))) := by kernel_rfl
theorem pr_res : (rF Try.prog 8).res = [.lda 5 2, .ld 3, .ld 4] := by kernel_rfl
def prK (H : CH) (sl : Sl) : CH := (((H.new (.cells [.int .i64 0, .int .i64 0, .string ⟨⟨[]⟩⟩, .int .i64 0, .slice none 0 0] 28 .ex)).new (.cells [.int .i64 0] 3 .ex)).new (.cells [.int .i64 0] 29 .ex)).new (rpC sl 0)
abbrev pP (l : Nat) : Value := .pointer (some ⟨l, 0, none⟩)
theorem pr_r0 {H : CH} {fr : Fr} {sl : Sl} (h0 : fr 0 = .slice sl.q sl.n sl.c) : WpR (tblG Try.prog LG GG) (.reg prP.1) fr H fun x fr1 H1 => x = .normal ∧ WpR (tblG Try.prog LG GG) (.reg prP.2.1) fr1 H1 fun x fr2 H2 => x = .normal ∧ fr2 2 = pP H.nx ∧ fr2 3 = pP (H.nx + 1) ∧ fr2 4 = pP (H.nx + 2) ∧ fr2 5 = pP (H.nx + 3) ∧ H2 = prK H sl := by
  have e1 : prP.1 = _ := rfl
  conv at e1 => rhs; reduce
  have e2 : prP.2.1 = _ := rfl
  conv at e2 => rhs; reduce
  rw [e1, e2]
  repeat' (first | (simp (disch := first | omega | (decide +kernel)) only [↓RD, RU, ↓putF_get, ↓evF_t, new_nx, pop, aop, akV, isVal, Value.cells, ρ0, ρ1, ρ4, ↓reduceIte, Nat.reduceEqDiff, Nat.reduceAdd, Int.reduceOfNat, reduceCtorEq, ρ7, ρ8, ρ17, ρ18, ρ19, ρ20, ρ25, ρ26, bldV, Nat.reduceLeDiff, h0]) | (with_reducible first | refine condK_dec (fun _ => ?_) fun _ => ?_ | refine grd_dec (fun _ => ?_) fun _ => ?_ | refine egrd_dec (fun _ => ?_) fun _ => ?_))
  rfl
def prZ (H : CH) (sl : Sl) : TP := ⟨fun b => ∃ o, sl.q = some ⟨b, o, none⟩, H.ob⟩
theorem prZ_in {H : CH} {sl : Sl} {ts : List PT} (h : SlAt 3 CTk H sl.q sl.c ts) {b : Nat} (hb : (prZ H sl).N b) : b < H.nx := by
  obtain ⟨o, ho⟩ := hb
  rcases h with ⟨_, _, h | h | h⟩ | ⟨l, o', os, e, k, q, hl, _⟩
  · rw [h] at ho; cases ho
  · rw [h] at ho; cases ho
  · rw [h] at ho; cases ho
  · rw [q] at ho; cases ho; exact hl
theorem prZ_ok {H : CH} {sl : Sl} {ts : List PT} (h : SlAt 3 CTk H sl.q sl.c ts) (hn : sl.n = ts.length) : TkZ (prZ H sl) sl ts := by
  refine ⟨hn, fun l o q => ⟨o, q⟩, fun K hK => ?_⟩
  rcases h with ⟨h1, h2, h3⟩ | ⟨l, o, os, e, k, q, h1, h2, h3, h4, h5, h6⟩
  · exact .inl ⟨h1, h2, h3⟩
  · obtain ⟨g1, g2⟩ := hK l ⟨o, q⟩
    exact .inr ⟨l, o, os, e, k, q, g1, h2, h3, g2.trans h4, h5, h6⟩
def prF (H : CH) : TFr := fun t => [.bad, .bad, rS (pP H.nx), rS (pP (H.nx + 1)), rS (pP (H.nx + 2)), .ptr 0 0].getD t .bad
theorem prK_nx {H : CH} {sl : Sl} : (prK H sl).nx = H.nx + 4 := rfl
theorem prK_old {H : CH} {sl : Sl} {b : Nat} (hb : b < H.nx) : (prK H sl).ob b = H.ob b := by
  unfold prK
  rw [new_ne (by simp only [new_nx]; omega), new_ne (by simp only [new_nx]; omega), new_ne (by simp only [new_nx]; omega), new_ne (by omega)]
theorem prK_r {H : CH} {sl : Sl} : (prK H sl).ob (H.nx + 3) = rpC sl 0 := new_get.trans (if_pos rfl)
theorem pr_start {H : CH} {sl : Sl} {ts : List PT} (h : SlAt 3 CTk H sl.q sl.c ts) {cfr : Fr} (c2 : cfr 2 = pP H.nx) (c3 : cfr 3 = pP (H.nx + 1)) (c4 : cfr 4 = pP (H.nx + 2)) (c5 : cfr 5 = pP (H.nx + 3)) :
    TR (prZ H sl) (prK H sl) (some (H.nx + 3)) (prK H sl) (st0 (rdR sl 0)) (prF H) cfr (E0 (some (H.nx + 3)) fun b => b < H.nx + 4 ∧ b ≠ H.nx + 3) := by
  have t0 : TR (prZ H sl) (prK H sl) (some (H.nx + 3)) (prK H sl) (st0 (rdR sl 0)) (fun t => ([] : List AV).getD t .bad) (fun t => ([] : List Value).getD t undef) (E0 (some (H.nx + 3)) fun b => b < H.nx + 4 ∧ b ≠ H.nx + 3) := by
    refine TR.start (e := none) (fun b hb => ⟨hb.1, fun e => hb.2 (by cases e; rfl)⟩) (fun b hb => ?_) .nil (self_mk (by rw [prK_nx]; omega) prK_r)
    have := prZ_in h hb
    exact ⟨by rw [prK_nx]; omega, fun e => by cases e; omega, prK_old this⟩
  refine { t0 with frm := fun t => ?_ }
  match t with
  | 0 => exact .bad
  | 1 => exact .bad
  | 2 => rw [c2]; exact rS_rel rfl
  | 3 => rw [c3]; exact rS_rel rfl
  | 4 => rw [c4]; exact rS_rel rfl
  | 5 => rw [c5]; exact .ptr rfl
  | n + 6 => exact .bad
theorem set_ne' {K : CH} {p b : Nat} {o : CObj} (h : b ≠ p) : (K.set p o).ob b = K.ob b := by
  simp only [CH.set]
  rw [if_neg h]
theorem tc_wp {T : Tbl} {X : Pan} {f : FuncId} {args : List AV} {Q : AV → List SV → Prop} (h : TC ⟨fun _ => False, fun _ => .dead⟩ T X f args none Q fun _ => False) {K : CH} {vs : List Value} (hv : R2 (AVR K (E0 none fun _ => False)) args vs) : WpF T f vs K fun v K' => HExt K K' ∧ ∃ a s', AVR K' (E0 none fun _ => False) a v ∧ Q a s' := by
  rcases h K none (fun _ => False) vs (fun _ h => h.elim) (fun _ h => h.elim) hv rfl with h | ⟨n, v, H', _, h⟩
  · exact h.mono fun v K' ⟨h1, h2, a, s', h3, _, _, h4⟩ => ⟨⟨h1, fun b hb => h2 b hb (by simp)⟩, a, s', h3, h4⟩
  · exact h.2.2.elim
attribute [local irreducible] TC isT nowT begT placeN
theorem pr_t3 {Z : TP} {X : Pan} {W : Int → Value} {ts : List PT} {sl : Sl} {H : CH} {R : Value → Prop} (C : PCtx Z X W ts sl) : twR Z (tblG Try.prog LG GG) X DT R prP.2.2.1 (prF H) (st0 (rdR sl 0)) fun x fr st => x = .normal ∧ (∃ nt v, st = ⟨nt, [(v, 43, (oR sl 0).2.2), (v, 28, nC 1 (nowT ts 0).line [] 0 (.s (.row 5 [])))]⟩) ∧ fr 2 = rS (pP H.nx) ∧ fr 3 = rS (pP (H.nx + 1)) ∧ fr 4 = rS (pP (H.nx + 2)) ∧ fr 5 = .ptr 0 0 ∧ fr 6 = .ptr 1 0 := by
  have e : prP.2.2.1 = _ := rfl
  conv at e => rhs; reduce
  rw [e]
  clear e
  conv => whnf
  refine now_tc C (Nat.zero_le _) ?_
  conv => whnf
  exact ⟨rfl, ⟨_, _, rfl⟩, rfl, rfl, rfl, rfl, rfl⟩
def prG (H : CH) : TFr := fun t => [.bad, .bad, rS (pP H.nx), rS (pP (H.nx + 1)), rS (pP (H.nx + 2)), .ptr 0 0, .ptr 1 0].getD t .bad
def AccT (acc : List Nd) (c : CV) : Prop := (acc = [] ∧ c = .s (.row 5 [])) ∨ ∃ t, c = .own t 28 5 (ndsS acc)
theorem pr_tL {Z : TP} {X : Pan} {W : Int → Value} {ts : List PT} {sl : Sl} {H : CH} {R : Value → Prop} (C : PCtx Z X W ts sl) {f nt v : Nat} (ih : ∀ m, m < f → PAll Z X W ts sl m) {E : Nat → Prop} {P : List Nd → Nat → Prop} (hG : Gd E P (gr ts f (.top []) 0)) (hE : ∀ e, E e → R (W (nowT ts e).line)) :
    twR Z (tblG Try.prog LG GG) X DT R prP.2.2.2.1 (prG H) ⟨nt, [(v, 43, (oR sl 0).2.2), (v, 28, nC 1 (nowT ts 0).line [] 0 (.s (.row 5 [])))]⟩ fun x fr st => x = .normal ∧ (∃ l j nt u v c, P l j ∧ AccT l c ∧ st = ⟨nt, [(u, 43, (oR sl j).2.2), (v, 28, nC 1 (hdLine (nowT ts 0).line l) [] 0 c)]⟩) ∧ fr 2 = rS (pP H.nx) ∧ fr 3 = rS (pP (H.nx + 1)) ∧ fr 4 = rS (pP (H.nx + 2)) ∧ fr 6 = .ptr 1 0 := by
  have e : prP.2.2.2.1 = _ := rfl
  conv at e => rhs; reduce
  rw [e]
  clear e
  have hlen := C.len
  conv => whnf
  refine loop_0 (fun m s => ∃ acc j c, AccV acc c ∧ s = ⟨1, [oR sl j, oN (nC 1 (hdLine (nowT ts 0).line acc) [] 0 c)]⟩ ∧ j ≤ ts.length ∧ m ≤ f ∧ 2 * acc.length ≤ j ∧ Gd E P (gr ts m (.top acc) j)) f [99] rfl ⟨[], _, _, .inl ⟨rfl, rfl⟩, rfl, by omega, Nat.le_refl _, by simp only [List.length_nil]; omega, hG⟩ ?_
  rintro m f1 s ⟨acc, j, c, hA, rfl, hj, hmf, hb2, hG⟩
  rcases m with _ | m
  · exact hG.elim
  have ihm := ih m (by omega)
  simp only [gr] at hG
  rcases hA with ⟨rfl, rfl⟩ | ⟨hne, rfl⟩
  rotate_left
  rcases acc with _ | ⟨⟨k2, l2, x2, o2, ks2⟩, acc⟩
  · exact absurd rfl hne
  all_goals
    try simp only [List.length_cons, List.length_nil] at hb2
    (conv => whnf)
    refine now_tc C (by omega) ?_
    (conv => whnf)
    generalize hk : ((nowT ts j).kind != Int.ofNat 0) = bb
    cases bb
    · have hk0 : (nowT ts j).kind = 0 := by simpa using hk
      rw [if_pos hk0] at hG
      (conv => whnf)
      first
        | exact ⟨rfl, ⟨_, _, _, _, _, _, hG, .inr ⟨_, rfl⟩, rfl⟩, rfl, rfl, rfl, rfl⟩
        | exact ⟨rfl, ⟨_, _, _, _, _, _, hG, .inl ⟨rfl, rfl⟩, rfl⟩, rfl, rfl, rfl, rfl⟩
    · have hk0 : ¬ (nowT ts j).kind = 0 := by simpa using hk
      rw [if_neg hk0] at hG
      have hlt := kd_lt hk0
      (conv => whnf)
      repeat' first
        | (refine rul_st ihm.stmt hG (by trivial) rfl (by intro e he; first | exact hE e he | exact ⟨True.intro, hE e he⟩) (by omega) ?_; intro n1 l1 x1 o1 ks1 j1 hp1 hj1 hG; simp only [NT.min] at hp1; (conv => whnf))
        | (intro (hmx : _ ≤ maxLen); (conv => whnf))
        | exact ⟨m, [2], by omega, rfl, _, _, _, accV_app rfl, rfl, by omega, by omega, (by simp only [List.length_append, List.length_cons, List.length_nil] at *; omega), hG⟩
        | (refine ⟨rfl, 0, _, rfl, rfl, ?_⟩; (conv => whnf))
        | (refine ⟨rfl, ?_⟩; (conv => whnf))
        | (refine ⟨bdA (by simp only [List.length_append, List.length_cons, List.length_nil, ndsS_len]; omega), ?_⟩; (conv => whnf))
theorem row_slc {K : CH} {A : Nat → Prop} {sz : Nat} {gs : List (List SV)} {w : Value} (h : SVR K A (.row sz gs) w) : ∃ a n c, w = .slice a n c := by
  cases h with
  | row0 => exact ⟨_, _, _, rfl⟩
  | row => exact ⟨_, _, _, rfl⟩
theorem nd_rel {K : CH} {A : Nat → Prop} (hA : ∀ b, A b → b < K.nx) {k : Nat} {l : Int} {x : List UInt8} {o : Nat} {ks : List Nd} {w : Value} (hw : SVR K A (.row 5 (ndsS ks)) w) : R2 (AVR K (E0 none fun _ => False)) [ndA (.mk k l x o ks)] [.agg #[.int .i64 (k : Nat), .int .i64 l, .string ⟨⟨x⟩⟩, .int .i64 (o : Nat), w]] := by
  refine .cons ?_ .nil
  have hw' : SVR K (Frz K (E0 none fun _ => False)) (.row 5 (ndsS ks)) w := hw.mv fun b hb => ⟨⟨hA b hb, fun h => h, (fun _ q => (by cases q)), fun o q => (by
    have q : (if o = 0 then none else none) = some b := q
    split at q <;> cases q)⟩, rfl⟩
  exact .r (.agg (vs := [.int .i64 (k : Nat), .int .i64 l, .string ⟨⟨x⟩⟩, .int .i64 (o : Nat), w]) (.cons (.s (.sc rfl)) (.cons (.s (.sc rfl)) (.cons (.s (.sc rfl)) (.cons (.s (.sc rfl)) (.cons (.s hw') .nil))))))
theorem height_wp {K : CH} {A : Nat → Prop} (hA : ∀ b, A b → b < K.nx) {k : Nat} {l : Int} {x : List UInt8} {o : Nat} {ks : List Nd} {w : Value} (hw : SVR K A (.row 5 (ndsS ks)) w) (hh : htL ks + 1 ≤ 9223372036854775807) : WpF (tblG Try.prog LG GG) 18 [.agg #[.int .i64 (k : Nat), .int .i64 l, .string ⟨⟨x⟩⟩, .int .i64 (o : Nat), w]] K fun v K' => HExt K K' ∧ v = .int .i64 (htL ks + 1 : Nat) :=
  (tc_wp (X := pX) (height_tc (nsz (.mk k l x o ks) + 1) k l x o ks (Nat.lt_succ_self _) hh (fun a _ => a = rS (.int .i64 (htL ks + 1 : Nat))) _ rfl) (nd_rel hA hw)).mono fun v K' ⟨h1, a, s', h2, h3⟩ => ⟨h1, by subst h3; exact raw_rel h2 rfl⟩
def PrO (H : CH) (t : Nd) (ln er : Int) (vs : List Value) (K' : CH) : Prop := HExt H K' ∧ ∃ os, vs = [.agg os.toArray, .int .i64 ln, .int .i64 er] ∧ SVRs K' (fun b => H.nx ≤ b ∧ b < K'.nx) (ndS t) os
def TyV (vs : List Value) (K' : CH) : Prop := ∀ a0 a1 a2 a3 b n c r, vs = .agg #[a0, a1, a2, a3, .slice (some ⟨b, 0, none⟩) n c] :: r → ∃ cs kd, K'.ob b = .cells cs 28 kd
theorem pr_rest {H K : CH} {fr : Fr} {b : Nat} {l : List Nd} {ln : Int} {w : Value} (h2 : fr 2 = pP H.nx) (h3 : fr 3 = pP (H.nx + 1)) (h4 : fr 4 = pP (H.nx + 2)) (h6 : fr 6 = pP b) (o2 : K.ob H.nx = .cells [.int .i64 0, .int .i64 0, .string ⟨⟨[]⟩⟩, .int .i64 0, .slice none 0 0] 28 .ex) (o3 : K.ob (H.nx + 1) = .cells [.int .i64 0] 3 .ex) (o4 : K.ob (H.nx + 2) = .cells [.int .i64 0] 29 .ex)
    (o6 : K.ob b = .cells [.int .i64 1, .int .i64 ln, .string ⟨⟨[]⟩⟩, .int .i64 0, w] 28 .ex) (hn : H.nx + 4 ≤ K.nx) (hb : b < K.nx) (hb4 : H.nx + 4 ≤ b) (hw : SVR K (fun b => H.nx + 4 ≤ b ∧ b < K.nx) (.row 5 (ndsS l)) w) (hh : htL l + 1 ≤ 9223372036854775807) (hold : ∀ b, b < H.nx → K.ob b = H.ob b) (hty : ∀ b n c, w = .slice (some ⟨b, 0, none⟩) n c → b < K.nx ∧ H.nx + 4 ≤ b ∧ ∃ cs kd, K.ob b = .cells cs 28 kd) :
    WpR (tblG Try.prog LG GG) prP.2.2.2.2 fr K fun x fr' K' => x = .ret ∧ ∃ vs, resL fr' K' [.lda 5 2, .ld 3, .ld 4] = some vs ∧ PrO H (if 60 < htL l + 1 then zNd else .mk 1 ln [] 0 l) 0 (if 60 < htL l + 1 then 11 else 0) vs K' ∧ TyV vs K' := by
  obtain ⟨wa, wn, wc, rfl⟩ : ∃ a n c, w = .slice a n c := by
    exact row_slc hw
  have e : prP.2.2.2.2 = _ := rfl
  conv at e => rhs; reduce
  rw [e]
  clear e
  repeat' (first | (simp (disch := first | omega | (decide +kernel)) only [↓RD, RU, ↓putF_get, ↓evF_t, lop, resL, resV, ρ0, ρ1, ↓reduceIte, Nat.reduceAdd, Int.reduceOfNat, ρ7, ρ8, ρ15, ρ18, h6, o6]) | (with_reducible first | refine condK_dec (fun _ => ?_) fun _ => ?_ | refine grd_dec (fun _ => ?_) fun _ => ?_ | refine egrd_dec (fun _ => ?_) fun _ => ?_))
  refine (height_wp (k := 1) (x := []) (o := 0) (fun _ h => h.2) hw hh).mono fun v K4 ⟨hx, e⟩ => ?_
  subst e
  have g2 := (hx.ob _ (show H.nx < K.nx by omega)).trans o2
  have g3 := (hx.ob _ (show H.nx + 1 < K.nx by omega)).trans o3
  have g4 := (hx.ob _ (show H.nx + 2 < K.nx by omega)).trans o4
  have g6 := (hx.ob _ hb).trans o6
  have hnx := hx.nx
  have hH4 : HExt H K4 := ⟨by omega, fun b hb => (hx.ob b (by omega)).trans (hold b hb)⟩
  by_cases h60 : 60 < htL l + 1
  · have hb1 : decide ((60 : Int) < ((htL l + 1 : Nat) : Int)) = true := decide_eq_true (by omega)
    repeat' (first | (simp (disch := first | omega | (decide +kernel)) only [↓RD, RU, ↓putF_get, ↓putF_none, ↓evF_t, ↓evF_c, set_get, pop, wop, isVal, isCell, Value.cells, ρ1, ρ4, ↓reduceIte, Nat.reduceEqDiff, Nat.reduceAdd, ρ5, ρ7, ρ8, ρ15, ρ17, ρ18, ρ21, ρ22, ρ23, Kd.isRo, ρ25, ρ26, bldV, h2, h3, h4, g2, g3, g4]) | (with_reducible first | refine condK_dec (fun _ => ?_) fun _ => ?_ | refine grd_dec (fun _ => ?_) fun _ => ?_ | refine egrd_dec (fun _ => ?_) fun _ => ?_))
    refine ⟨_, rfl, ⟨((hH4.set (Nat.le_refl _) _).set (by omega) _).set (by omega) _, _, rfl, .cons (.sc rfl) (.cons (.sc rfl) (.cons (.sc rfl) (.cons (.sc rfl) (.cons .row0 .nil))))⟩, ?_⟩
    intro a0 a1 a2 a3 b n c r e
    simp at e
  · have hb1 : decide ((60 : Int) < ((htL l + 1 : Nat) : Int)) = false := decide_eq_false (by omega)
    repeat' (first | (simp (disch := first | omega | (decide +kernel)) only [↓RD, RU, ↓putF_get, ↓putF_none, ↓evF_t, ↓evF_c, set_get, pop, lop, wop, isVal, isCell, Value.cells, ↓reduceIte, Nat.reduceEqDiff, Nat.reduceAdd, ρ5, ρ7, ρ8, ρ15, ρ17, ρ18, ρ21, ρ22, ρ23, Kd.isRo, ρ25, ρ26, h2, h3, h4, h6, g2, g3, g4, g6]) | (with_reducible first | refine condK_dec (fun _ => ?_) fun _ => ?_ | refine grd_dec (fun _ => ?_) fun _ => ?_ | refine egrd_dec (fun _ => ?_) fun _ => ?_))
    refine ⟨_, rfl, ⟨((hH4.set (Nat.le_refl _) _).set (by omega) _).set (by omega) _, _, rfl, .cons (.sc rfl) (.cons (.sc rfl) (.cons (.sc rfl) (.cons (.sc rfl) (.cons (hw.mv fun b hb => ⟨⟨by omega, Nat.lt_of_lt_of_le hb.2 hnx⟩, ?_⟩) .nil))))⟩, ?_⟩
    · rw [set_ne' (by omega), set_ne' (by omega), set_ne' (by omega)]
      exact hx.ob b hb.2
    · intro a0 a1 a2 a3 b n c r e
      simp only [List.cons.injEq, Value.agg.injEq, Array.mk.injEq] at e
      obtain ⟨⟨_, _, _, _, e, _⟩, _⟩ := e
      obtain ⟨q1, q2, cs, kd, q3⟩ := hty b n c e
      exact ⟨cs, kd, by rw [set_ne' (by omega), set_ne' (by omega), set_ne' (by omega), hx.ob b q1]; exact q3⟩
end Can
end Go.Proofs.Ytnkfdkfmdeibfaa
end
