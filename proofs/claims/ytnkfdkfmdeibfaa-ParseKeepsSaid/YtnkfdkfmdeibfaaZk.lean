/- Parse: how high the trees are. No program in sight. (Printed by tools/genpsh.py.). Parse, the program: leaf, single, place. Parse, the program: its rules, as runs over trees. (Printed by tools/genpw.py.). -/
import Derived.Test.YtnkfdkfmdeibfaaZi
import Derived.Test.YtnkfdkfmdeibfaaZj
section
namespace Go.Proofs.Ytnkfdkfmdeibfaa
namespace Can
set_option linter.unusedSimpArgs false
set_option linter.unusedVariables false
mutual
/-- How many levels. -/
def htN : Nd → Nat
  | .mk _ _ _ _ ks => htL ks + 1
def htL : List Nd → Nat
  | [] => 0
  | n :: ks => max (htN n) (htL ks)
end
theorem htL_drop {ks : List Nd} {i : Nat} {t : Nd} (h : ks[i]? = some t) : htL (ks.drop i) = max (htN t) (htL (ks.drop (i + 1))) := by
  obtain ⟨hi, rfl⟩ := List.getElem?_eq_some_iff.1 h
  rw [List.drop_eq_getElem_cons hi]
  rfl
theorem htL_mem : ∀ {ks : List Nd} {t : Nd}, t ∈ ks → htN t ≤ htL ks
  | n :: ks, t, h => by
    rcases List.mem_cons.1 h with rfl | h
    · exact Nat.le_max_left _ _
    · exact Nat.le_trans (htL_mem h) (Nat.le_max_right _ _)
mutual
/-- How many nodes. -/
def szN : Nd → Nat
  | .mk _ _ _ _ ks => szL ks + 1
def szL : List Nd → Nat
  | [] => 0
  | n :: ks => szN n + szL ks
end
mutual
theorem ht_szN : ∀ n : Nd, htN n ≤ szN n
  | .mk _ _ _ _ ks => Nat.succ_le_succ (ht_szL ks)
theorem ht_szL : ∀ ks : List Nd, htL ks ≤ szL ks
  | [] => Nat.le_refl _
  | n :: ks => Nat.max_le.2 ⟨Nat.le_trans (ht_szN n) (Nat.le_add_right _ _), Nat.le_trans (ht_szL ks) (Nat.le_add_left _ _)⟩
end
theorem szL_app : ∀ {a b : List Nd}, szL (a ++ b) = szL a + szL b
  | [], b => (Nat.zero_add _).symm
  | n :: a, b => by simp only [List.cons_append, szL, szL_app, Nat.add_assoc]
def NT.sz : NT → Nat
  | .params _ _ c => szL c
  | .row _ b => szL b
  | .exprsL _ b => szL b
  | .orL a => szN a
  | .andL a => szN a
  | .cmpL a b => szN a + szL b
  | .arithL a => szN a
  | .termL a => szN a
  | .primL a => szN a
  | .index a => szN a
  | .clauses a => szL a
  | .dictL _ b => szL b
  | .placesL _ b => szL b
  | .names _ _ c => szL c
  | .asgL _ b => szL b
  | .blockL a => szL a
  | .triesL a => szL a
  | .triesF _ b => szL b
  | .top a => szL a
  | _ => 0
def NT.lo : NT → Nat
  | .atom => 50
  | .primary => 50
  | .factor => 50
  | .term => 50
  | .arith => 50
  | .compare => 49
  | .expr => 49
  | .exprs => 48
  | .one => 50
  | .places => 49
  | .value => 47
  | .plain => 40
  | .simple => 40
  | .block => 30
  | .stmt => 30
  | .ifs _ => 20
  | .not => 49
  | .and => 49
  | .or => 49
  | _ => 0
def NT.ad : NT → Nat
  | .exprsL _ _ => 1
  | .cmpL _ _ => 1
  | .dictL _ _ => 1
  | .placesL _ _ => 1
  | .params _ _ _ => 1
  | .maybe _ _ _ => 1
  | .asgL _ _ => 1
  | .list _ => 1
  | .braces _ => 1
  | .triesF _ _ => 1
  | _ => 0
def GdT (P : List Nd → Nat → Prop) (r : PR) : Prop := Gd (fun _ => True) P r
theorem gd_and {E E' : Nat → Prop} {P P' : List Nd → Nat → Prop} {r : PR} (h : Gd E P r) (h' : Gd E' P' r) : Gd (fun e => E e ∧ E' e) (fun l j => P l j ∧ P' l j) r := by
  match r, h, h' with
  | some (.error e), h, h' => exact ⟨h, h'⟩
  | some (.ok (l, j)), h, h' => exact ⟨h, h'⟩
theorem gt_if {ts : List PT} {s : List UInt8} {i : Nat} {a b : PR} {P : List Nd → Nat → Prop} (h1 : i < ts.length → GdT P a) (h2 : GdT P b) : GdT P (if isT ts i s = true then a else b) := gd_if h1 h2
theorem gt_ite {c : Prop} [Decidable c] {a b : PR} {P : List Nd → Nat → Prop} (h1 : c → GdT P a) (h2 : ¬ c → GdT P b) : GdT P (if c then a else b) := gd_ite h1 h2
theorem gt_wantB {ts : List PT} {s : List UInt8} {i : Nat} {k : Nat → PR} {P : List Nd → Nat → Prop} (h2 : i < ts.length → GdT P (k (i + 1))) : GdT P (wantB ts s i k) := gd_wantB trivial h2
theorem gt_wantK {ts : List PT} {kd : Int} (h0 : kd ≠ 0) {i : Nat} {k : List UInt8 → Nat → PR} {P : List Nd → Nat → Prop} (h2 : i < ts.length → GdT P (k (nowT ts i).text (i + 1))) : GdT P (wantK ts kd i k) := gd_wantK h0 trivial h2
theorem gt_pk {t : Nd} {j : Nat} {P : List Nd → Nat → Prop} (h : P [t] j) : GdT P (pk1 t j) := h
theorem gt_ok {l : List Nd} {j : Nat} {P : List Nd → Nat → Prop} (h : P l j) : GdT P (some (.ok (l, j))) := h
theorem gt_er {e : Nat} {P : List Nd → Nat → Prop} : GdT P (some (.error e)) := trivial
def HtOk (ts : List PT) (f : Nat) : Prop := ∀ (a : NT) (i : Nat), a.good → i ≤ ts.length → ts.length * 64 + a.rank < f + i * 64 → GdT (fun l j => szL l + 64 * i + a.lo ≤ a.sz + 64 * j + a.ad) (gr ts f a i)
theorem HtOk.one {ts : List PT} {f : Nat} (h : HtOk ts f) {a : NT} {i : Nat} {P : List Nd → Nat → Prop} {k : Nd → Nat → PR} (hg : a.good) (hi : i ≤ ts.length) (hf : ts.length * 64 + a.rank < f + i * 64) (ha : a.acc = none) (hP : ∀ t j, i + a.min ≤ j → j ≤ ts.length → szN t + 64 * i + a.lo ≤ a.sz + 64 * j + a.ad → GdT P (k t j)) : GdT P (pb1 (gr ts f a i) k) := by
  unfold GdT
  rw [gd_pb1]
  refine (gd_and (gr_gd f a i hg hi hf) (h a i hg hi hf)).mono (fun _ _ => trivial) fun l j h => ?_
  obtain ⟨⟨h1, h2, h3⟩, h4⟩ := h
  rw [ha] at h3
  obtain ⟨t, rfl⟩ := nd_one_of h3
  exact ⟨t, rfl, hP t j h1 h2 h4⟩
theorem HtOk.lst {ts : List PT} {f : Nat} (h : HtOk ts f) {a : NT} {i : Nat} {P : List Nd → Nat → Prop} {k : List Nd → Nat → PR} (hg : a.good) (hi : i ≤ ts.length) (hf : ts.length * 64 + a.rank < f + i * 64) (hP : ∀ l j, i + a.min ≤ j → j ≤ ts.length → szL l + 64 * i + a.lo ≤ a.sz + 64 * j + a.ad → GdT P (k l j)) : GdT P (pb (gr ts f a i) k) := by
  unfold GdT
  rw [gd_pb]
  refine (gd_and (gr_gd f a i hg hi hf) (h a i hg hi hf)).mono (fun _ _ => trivial) fun l j h => ?_
  obtain ⟨⟨h1, h2, h3⟩, h4⟩ := h
  exact hP l j h1 h2 h4
theorem HtOk.nxt {ts : List PT} {f : Nat} (h : HtOk ts f) {a : NT} {i : Nat} {P : List Nd → Nat → Prop} (hg : a.good) (hi : i ≤ ts.length) (hf : ts.length * 64 + a.rank < f + i * 64) (hP : ∀ l j, i + a.min ≤ j → j ≤ ts.length → szL l + 64 * i + a.lo ≤ a.sz + 64 * j + a.ad → P l j) : GdT P (gr ts f a i) :=
  (gd_and (gr_gd f a i hg hi hf) (h a i hg hi hf)).mono (fun _ _ => trivial) fun l j ⟨⟨h1, h2, h3⟩, h4⟩ => hP l j h1 h2 h4
theorem hh_expr {ts : List PT} {f i : Nat} (ih : HtOk ts f)  (hg : (NT.expr).good) (hi : i ≤ ts.length) (hf : ts.length * 64 + (NT.expr).rank < f + 1 + i * 64) : GdT (fun l j => szL l + 64 * i + (NT.expr).lo ≤ (NT.expr).sz + 64 * j + (NT.expr).ad) (gr ts (f + 1) (NT.expr) i) := by
  simp only [gr]
  repeat' first | (with_reducible refine gt_if (fun h => ?_) ?_) | ((with_reducible refine gt_wantB ?_); intro h) | ((with_reducible refine gt_wantK ?_ ?_); decide; intro h) | (with_reducible exact gt_er) | ((with_reducible refine gt_pk ?_); (simp only [NT.min, NT.sz, NT.lo, NT.ad, szN, szL, szL_app]; omega)) | ((with_reducible refine gt_ok ?_); (simp only [NT.min, NT.sz, NT.lo, NT.ad, szN, szL, szL_app]; omega)) | ((with_reducible refine ih.one ?_ ?_ ?_ ?_ ?_); (first | exact True.intro | simp [NT.good]); omega; (simp only [NT.rank] at hf ⊢; omega); rfl; intro t j g1 g3 g7; simp only [NT.min, NT.sz, NT.lo, NT.ad, szN, szL, szL_app] at g1 g7) | ((with_reducible refine ih.lst ?_ ?_ ?_ ?_); (first | exact True.intro | simp [NT.good]); omega; (simp only [NT.rank] at hf ⊢; omega); intro l j g1 g3 g7; simp only [NT.min, NT.sz, NT.lo, NT.ad, szN, szL, szL_app] at g1 g7) | ((with_reducible refine ih.nxt ?_ ?_ ?_ ?_); (first | exact True.intro | simp [NT.good]); omega; (simp only [NT.rank] at hf ⊢; omega); intro l j g1 g3 g7; simp only [NT.min, NT.sz, NT.lo, NT.ad, szN, szL, szL_app] at g1 g7 ⊢; omega) | (with_reducible refine gt_ite (fun h => ?_) (fun h => ?_))
theorem hh_or {ts : List PT} {f i : Nat} (ih : HtOk ts f)  (hg : (NT.or).good) (hi : i ≤ ts.length) (hf : ts.length * 64 + (NT.or).rank < f + 1 + i * 64) : GdT (fun l j => szL l + 64 * i + (NT.or).lo ≤ (NT.or).sz + 64 * j + (NT.or).ad) (gr ts (f + 1) (NT.or) i) := by
  simp only [gr]
  repeat' first | (with_reducible refine gt_if (fun h => ?_) ?_) | ((with_reducible refine gt_wantB ?_); intro h) | ((with_reducible refine gt_wantK ?_ ?_); decide; intro h) | (with_reducible exact gt_er) | ((with_reducible refine gt_pk ?_); (simp only [NT.min, NT.sz, NT.lo, NT.ad, szN, szL, szL_app]; omega)) | ((with_reducible refine gt_ok ?_); (simp only [NT.min, NT.sz, NT.lo, NT.ad, szN, szL, szL_app]; omega)) | ((with_reducible refine ih.one ?_ ?_ ?_ ?_ ?_); (first | exact True.intro | simp [NT.good]); omega; (simp only [NT.rank] at hf ⊢; omega); rfl; intro t j g1 g3 g7; simp only [NT.min, NT.sz, NT.lo, NT.ad, szN, szL, szL_app] at g1 g7) | ((with_reducible refine ih.lst ?_ ?_ ?_ ?_); (first | exact True.intro | simp [NT.good]); omega; (simp only [NT.rank] at hf ⊢; omega); intro l j g1 g3 g7; simp only [NT.min, NT.sz, NT.lo, NT.ad, szN, szL, szL_app] at g1 g7) | ((with_reducible refine ih.nxt ?_ ?_ ?_ ?_); (first | exact True.intro | simp [NT.good]); omega; (simp only [NT.rank] at hf ⊢; omega); intro l j g1 g3 g7; simp only [NT.min, NT.sz, NT.lo, NT.ad, szN, szL, szL_app] at g1 g7 ⊢; omega) | (with_reducible refine gt_ite (fun h => ?_) (fun h => ?_))
theorem hh_and {ts : List PT} {f i : Nat} (ih : HtOk ts f)  (hg : (NT.and).good) (hi : i ≤ ts.length) (hf : ts.length * 64 + (NT.and).rank < f + 1 + i * 64) : GdT (fun l j => szL l + 64 * i + (NT.and).lo ≤ (NT.and).sz + 64 * j + (NT.and).ad) (gr ts (f + 1) (NT.and) i) := by
  simp only [gr]
  repeat' first | (with_reducible refine gt_if (fun h => ?_) ?_) | ((with_reducible refine gt_wantB ?_); intro h) | ((with_reducible refine gt_wantK ?_ ?_); decide; intro h) | (with_reducible exact gt_er) | ((with_reducible refine gt_pk ?_); (simp only [NT.min, NT.sz, NT.lo, NT.ad, szN, szL, szL_app]; omega)) | ((with_reducible refine gt_ok ?_); (simp only [NT.min, NT.sz, NT.lo, NT.ad, szN, szL, szL_app]; omega)) | ((with_reducible refine ih.one ?_ ?_ ?_ ?_ ?_); (first | exact True.intro | simp [NT.good]); omega; (simp only [NT.rank] at hf ⊢; omega); rfl; intro t j g1 g3 g7; simp only [NT.min, NT.sz, NT.lo, NT.ad, szN, szL, szL_app] at g1 g7) | ((with_reducible refine ih.lst ?_ ?_ ?_ ?_); (first | exact True.intro | simp [NT.good]); omega; (simp only [NT.rank] at hf ⊢; omega); intro l j g1 g3 g7; simp only [NT.min, NT.sz, NT.lo, NT.ad, szN, szL, szL_app] at g1 g7) | ((with_reducible refine ih.nxt ?_ ?_ ?_ ?_); (first | exact True.intro | simp [NT.good]); omega; (simp only [NT.rank] at hf ⊢; omega); intro l j g1 g3 g7; simp only [NT.min, NT.sz, NT.lo, NT.ad, szN, szL, szL_app] at g1 g7 ⊢; omega) | (with_reducible refine gt_ite (fun h => ?_) (fun h => ?_))
theorem hh_not {ts : List PT} {f i : Nat} (ih : HtOk ts f)  (hg : (NT.not).good) (hi : i ≤ ts.length) (hf : ts.length * 64 + (NT.not).rank < f + 1 + i * 64) : GdT (fun l j => szL l + 64 * i + (NT.not).lo ≤ (NT.not).sz + 64 * j + (NT.not).ad) (gr ts (f + 1) (NT.not) i) := by
  simp only [gr]
  repeat' first | (with_reducible refine gt_if (fun h => ?_) ?_) | ((with_reducible refine gt_wantB ?_); intro h) | ((with_reducible refine gt_wantK ?_ ?_); decide; intro h) | (with_reducible exact gt_er) | ((with_reducible refine gt_pk ?_); (simp only [NT.min, NT.sz, NT.lo, NT.ad, szN, szL, szL_app]; omega)) | ((with_reducible refine gt_ok ?_); (simp only [NT.min, NT.sz, NT.lo, NT.ad, szN, szL, szL_app]; omega)) | ((with_reducible refine ih.one ?_ ?_ ?_ ?_ ?_); (first | exact True.intro | simp [NT.good]); omega; (simp only [NT.rank] at hf ⊢; omega); rfl; intro t j g1 g3 g7; simp only [NT.min, NT.sz, NT.lo, NT.ad, szN, szL, szL_app] at g1 g7) | ((with_reducible refine ih.lst ?_ ?_ ?_ ?_); (first | exact True.intro | simp [NT.good]); omega; (simp only [NT.rank] at hf ⊢; omega); intro l j g1 g3 g7; simp only [NT.min, NT.sz, NT.lo, NT.ad, szN, szL, szL_app] at g1 g7) | ((with_reducible refine ih.nxt ?_ ?_ ?_ ?_); (first | exact True.intro | simp [NT.good]); omega; (simp only [NT.rank] at hf ⊢; omega); intro l j g1 g3 g7; simp only [NT.min, NT.sz, NT.lo, NT.ad, szN, szL, szL_app] at g1 g7 ⊢; omega) | (with_reducible refine gt_ite (fun h => ?_) (fun h => ?_))
theorem hh_compare {ts : List PT} {f i : Nat} (ih : HtOk ts f)  (hg : (NT.compare).good) (hi : i ≤ ts.length) (hf : ts.length * 64 + (NT.compare).rank < f + 1 + i * 64) : GdT (fun l j => szL l + 64 * i + (NT.compare).lo ≤ (NT.compare).sz + 64 * j + (NT.compare).ad) (gr ts (f + 1) (NT.compare) i) := by
  simp only [gr]
  repeat' first | (with_reducible refine gt_if (fun h => ?_) ?_) | ((with_reducible refine gt_wantB ?_); intro h) | ((with_reducible refine gt_wantK ?_ ?_); decide; intro h) | (with_reducible exact gt_er) | ((with_reducible refine gt_pk ?_); (simp only [NT.min, NT.sz, NT.lo, NT.ad, szN, szL, szL_app]; omega)) | ((with_reducible refine gt_ok ?_); (simp only [NT.min, NT.sz, NT.lo, NT.ad, szN, szL, szL_app]; omega)) | ((with_reducible refine ih.one ?_ ?_ ?_ ?_ ?_); (first | exact True.intro | simp [NT.good]); omega; (simp only [NT.rank] at hf ⊢; omega); rfl; intro t j g1 g3 g7; simp only [NT.min, NT.sz, NT.lo, NT.ad, szN, szL, szL_app] at g1 g7) | ((with_reducible refine ih.lst ?_ ?_ ?_ ?_); (first | exact True.intro | simp [NT.good]); omega; (simp only [NT.rank] at hf ⊢; omega); intro l j g1 g3 g7; simp only [NT.min, NT.sz, NT.lo, NT.ad, szN, szL, szL_app] at g1 g7) | ((with_reducible refine ih.nxt ?_ ?_ ?_ ?_); (first | exact True.intro | simp [NT.good]); omega; (simp only [NT.rank] at hf ⊢; omega); intro l j g1 g3 g7; simp only [NT.min, NT.sz, NT.lo, NT.ad, szN, szL, szL_app] at g1 g7 ⊢; omega) | (with_reducible refine gt_ite (fun h => ?_) (fun h => ?_))
theorem hh_arith {ts : List PT} {f i : Nat} (ih : HtOk ts f)  (hg : (NT.arith).good) (hi : i ≤ ts.length) (hf : ts.length * 64 + (NT.arith).rank < f + 1 + i * 64) : GdT (fun l j => szL l + 64 * i + (NT.arith).lo ≤ (NT.arith).sz + 64 * j + (NT.arith).ad) (gr ts (f + 1) (NT.arith) i) := by
  simp only [gr]
  repeat' first | (with_reducible refine gt_if (fun h => ?_) ?_) | ((with_reducible refine gt_wantB ?_); intro h) | ((with_reducible refine gt_wantK ?_ ?_); decide; intro h) | (with_reducible exact gt_er) | ((with_reducible refine gt_pk ?_); (simp only [NT.min, NT.sz, NT.lo, NT.ad, szN, szL, szL_app]; omega)) | ((with_reducible refine gt_ok ?_); (simp only [NT.min, NT.sz, NT.lo, NT.ad, szN, szL, szL_app]; omega)) | ((with_reducible refine ih.one ?_ ?_ ?_ ?_ ?_); (first | exact True.intro | simp [NT.good]); omega; (simp only [NT.rank] at hf ⊢; omega); rfl; intro t j g1 g3 g7; simp only [NT.min, NT.sz, NT.lo, NT.ad, szN, szL, szL_app] at g1 g7) | ((with_reducible refine ih.lst ?_ ?_ ?_ ?_); (first | exact True.intro | simp [NT.good]); omega; (simp only [NT.rank] at hf ⊢; omega); intro l j g1 g3 g7; simp only [NT.min, NT.sz, NT.lo, NT.ad, szN, szL, szL_app] at g1 g7) | ((with_reducible refine ih.nxt ?_ ?_ ?_ ?_); (first | exact True.intro | simp [NT.good]); omega; (simp only [NT.rank] at hf ⊢; omega); intro l j g1 g3 g7; simp only [NT.min, NT.sz, NT.lo, NT.ad, szN, szL, szL_app] at g1 g7 ⊢; omega) | (with_reducible refine gt_ite (fun h => ?_) (fun h => ?_))
theorem hh_term {ts : List PT} {f i : Nat} (ih : HtOk ts f)  (hg : (NT.term).good) (hi : i ≤ ts.length) (hf : ts.length * 64 + (NT.term).rank < f + 1 + i * 64) : GdT (fun l j => szL l + 64 * i + (NT.term).lo ≤ (NT.term).sz + 64 * j + (NT.term).ad) (gr ts (f + 1) (NT.term) i) := by
  simp only [gr]
  repeat' first | (with_reducible refine gt_if (fun h => ?_) ?_) | ((with_reducible refine gt_wantB ?_); intro h) | ((with_reducible refine gt_wantK ?_ ?_); decide; intro h) | (with_reducible exact gt_er) | ((with_reducible refine gt_pk ?_); (simp only [NT.min, NT.sz, NT.lo, NT.ad, szN, szL, szL_app]; omega)) | ((with_reducible refine gt_ok ?_); (simp only [NT.min, NT.sz, NT.lo, NT.ad, szN, szL, szL_app]; omega)) | ((with_reducible refine ih.one ?_ ?_ ?_ ?_ ?_); (first | exact True.intro | simp [NT.good]); omega; (simp only [NT.rank] at hf ⊢; omega); rfl; intro t j g1 g3 g7; simp only [NT.min, NT.sz, NT.lo, NT.ad, szN, szL, szL_app] at g1 g7) | ((with_reducible refine ih.lst ?_ ?_ ?_ ?_); (first | exact True.intro | simp [NT.good]); omega; (simp only [NT.rank] at hf ⊢; omega); intro l j g1 g3 g7; simp only [NT.min, NT.sz, NT.lo, NT.ad, szN, szL, szL_app] at g1 g7) | ((with_reducible refine ih.nxt ?_ ?_ ?_ ?_); (first | exact True.intro | simp [NT.good]); omega; (simp only [NT.rank] at hf ⊢; omega); intro l j g1 g3 g7; simp only [NT.min, NT.sz, NT.lo, NT.ad, szN, szL, szL_app] at g1 g7 ⊢; omega) | (with_reducible refine gt_ite (fun h => ?_) (fun h => ?_))
theorem hh_factor {ts : List PT} {f i : Nat} (ih : HtOk ts f)  (hg : (NT.factor).good) (hi : i ≤ ts.length) (hf : ts.length * 64 + (NT.factor).rank < f + 1 + i * 64) : GdT (fun l j => szL l + 64 * i + (NT.factor).lo ≤ (NT.factor).sz + 64 * j + (NT.factor).ad) (gr ts (f + 1) (NT.factor) i) := by
  simp only [gr]
  repeat' first | (with_reducible refine gt_if (fun h => ?_) ?_) | ((with_reducible refine gt_wantB ?_); intro h) | ((with_reducible refine gt_wantK ?_ ?_); decide; intro h) | (with_reducible exact gt_er) | ((with_reducible refine gt_pk ?_); (simp only [NT.min, NT.sz, NT.lo, NT.ad, szN, szL, szL_app]; omega)) | ((with_reducible refine gt_ok ?_); (simp only [NT.min, NT.sz, NT.lo, NT.ad, szN, szL, szL_app]; omega)) | ((with_reducible refine ih.one ?_ ?_ ?_ ?_ ?_); (first | exact True.intro | simp [NT.good]); omega; (simp only [NT.rank] at hf ⊢; omega); rfl; intro t j g1 g3 g7; simp only [NT.min, NT.sz, NT.lo, NT.ad, szN, szL, szL_app] at g1 g7) | ((with_reducible refine ih.lst ?_ ?_ ?_ ?_); (first | exact True.intro | simp [NT.good]); omega; (simp only [NT.rank] at hf ⊢; omega); intro l j g1 g3 g7; simp only [NT.min, NT.sz, NT.lo, NT.ad, szN, szL, szL_app] at g1 g7) | ((with_reducible refine ih.nxt ?_ ?_ ?_ ?_); (first | exact True.intro | simp [NT.good]); omega; (simp only [NT.rank] at hf ⊢; omega); intro l j g1 g3 g7; simp only [NT.min, NT.sz, NT.lo, NT.ad, szN, szL, szL_app] at g1 g7 ⊢; omega) | (with_reducible refine gt_ite (fun h => ?_) (fun h => ?_))
theorem hh_primary {ts : List PT} {f i : Nat} (ih : HtOk ts f)  (hg : (NT.primary).good) (hi : i ≤ ts.length) (hf : ts.length * 64 + (NT.primary).rank < f + 1 + i * 64) : GdT (fun l j => szL l + 64 * i + (NT.primary).lo ≤ (NT.primary).sz + 64 * j + (NT.primary).ad) (gr ts (f + 1) (NT.primary) i) := by
  simp only [gr]
  repeat' first | (with_reducible refine gt_if (fun h => ?_) ?_) | ((with_reducible refine gt_wantB ?_); intro h) | ((with_reducible refine gt_wantK ?_ ?_); decide; intro h) | (with_reducible exact gt_er) | ((with_reducible refine gt_pk ?_); (simp only [NT.min, NT.sz, NT.lo, NT.ad, szN, szL, szL_app]; omega)) | ((with_reducible refine gt_ok ?_); (simp only [NT.min, NT.sz, NT.lo, NT.ad, szN, szL, szL_app]; omega)) | ((with_reducible refine ih.one ?_ ?_ ?_ ?_ ?_); (first | exact True.intro | simp [NT.good]); omega; (simp only [NT.rank] at hf ⊢; omega); rfl; intro t j g1 g3 g7; simp only [NT.min, NT.sz, NT.lo, NT.ad, szN, szL, szL_app] at g1 g7) | ((with_reducible refine ih.lst ?_ ?_ ?_ ?_); (first | exact True.intro | simp [NT.good]); omega; (simp only [NT.rank] at hf ⊢; omega); intro l j g1 g3 g7; simp only [NT.min, NT.sz, NT.lo, NT.ad, szN, szL, szL_app] at g1 g7) | ((with_reducible refine ih.nxt ?_ ?_ ?_ ?_); (first | exact True.intro | simp [NT.good]); omega; (simp only [NT.rank] at hf ⊢; omega); intro l j g1 g3 g7; simp only [NT.min, NT.sz, NT.lo, NT.ad, szN, szL, szL_app] at g1 g7 ⊢; omega) | (with_reducible refine gt_ite (fun h => ?_) (fun h => ?_))
theorem hh_atom {ts : List PT} {f i : Nat} (ih : HtOk ts f)  (hg : (NT.atom).good) (hi : i ≤ ts.length) (hf : ts.length * 64 + (NT.atom).rank < f + 1 + i * 64) : GdT (fun l j => szL l + 64 * i + (NT.atom).lo ≤ (NT.atom).sz + 64 * j + (NT.atom).ad) (gr ts (f + 1) (NT.atom) i) := by
  simp only [gr]
  repeat' first | (have h0 := kd_lt (by rw [h]; decide); clear h) | (have h0 := kd_lt (i := i) (ts := ts) (by omega); clear h) | (with_reducible refine gt_if (fun h => ?_) ?_) | ((with_reducible refine gt_wantB ?_); intro h) | ((with_reducible refine gt_wantK ?_ ?_); decide; intro h) | (with_reducible exact gt_er) | ((with_reducible refine gt_pk ?_); (simp only [NT.min, NT.sz, NT.lo, NT.ad, szN, szL, szL_app]; omega)) | ((with_reducible refine gt_ok ?_); (simp only [NT.min, NT.sz, NT.lo, NT.ad, szN, szL, szL_app]; omega)) | ((with_reducible refine ih.one ?_ ?_ ?_ ?_ ?_); (first | exact True.intro | simp [NT.good]); omega; (simp only [NT.rank] at hf ⊢; omega); rfl; intro t j g1 g3 g7; simp only [NT.min, NT.sz, NT.lo, NT.ad, szN, szL, szL_app] at g1 g7) | ((with_reducible refine ih.lst ?_ ?_ ?_ ?_); (first | exact True.intro | simp [NT.good]); omega; (simp only [NT.rank] at hf ⊢; omega); intro l j g1 g3 g7; simp only [NT.min, NT.sz, NT.lo, NT.ad, szN, szL, szL_app] at g1 g7) | ((with_reducible refine ih.nxt ?_ ?_ ?_ ?_); (first | exact True.intro | simp [NT.good]); omega; (simp only [NT.rank] at hf ⊢; omega); intro l j g1 g3 g7; simp only [NT.min, NT.sz, NT.lo, NT.ad, szN, szL, szL_app] at g1 g7 ⊢; omega) | (with_reducible refine gt_ite (fun h => ?_) (fun h => ?_))
theorem hh_exprs {ts : List PT} {f i : Nat} (ih : HtOk ts f)  (hg : (NT.exprs).good) (hi : i ≤ ts.length) (hf : ts.length * 64 + (NT.exprs).rank < f + 1 + i * 64) : GdT (fun l j => szL l + 64 * i + (NT.exprs).lo ≤ (NT.exprs).sz + 64 * j + (NT.exprs).ad) (gr ts (f + 1) (NT.exprs) i) := by
  simp only [gr]
  repeat' first | (with_reducible refine gt_if (fun h => ?_) ?_) | ((with_reducible refine gt_wantB ?_); intro h) | ((with_reducible refine gt_wantK ?_ ?_); decide; intro h) | (with_reducible exact gt_er) | ((with_reducible refine gt_pk ?_); (simp only [NT.min, NT.sz, NT.lo, NT.ad, szN, szL, szL_app]; omega)) | ((with_reducible refine gt_ok ?_); (simp only [NT.min, NT.sz, NT.lo, NT.ad, szN, szL, szL_app]; omega)) | ((with_reducible refine ih.one ?_ ?_ ?_ ?_ ?_); (first | exact True.intro | simp [NT.good]); omega; (simp only [NT.rank] at hf ⊢; omega); rfl; intro t j g1 g3 g7; simp only [NT.min, NT.sz, NT.lo, NT.ad, szN, szL, szL_app] at g1 g7) | ((with_reducible refine ih.lst ?_ ?_ ?_ ?_); (first | exact True.intro | simp [NT.good]); omega; (simp only [NT.rank] at hf ⊢; omega); intro l j g1 g3 g7; simp only [NT.min, NT.sz, NT.lo, NT.ad, szN, szL, szL_app] at g1 g7) | ((with_reducible refine ih.nxt ?_ ?_ ?_ ?_); (first | exact True.intro | simp [NT.good]); omega; (simp only [NT.rank] at hf ⊢; omega); intro l j g1 g3 g7; simp only [NT.min, NT.sz, NT.lo, NT.ad, szN, szL, szL_app] at g1 g7 ⊢; omega) | (with_reducible refine gt_ite (fun h => ?_) (fun h => ?_))
theorem hh_one {ts : List PT} {f i : Nat} (ih : HtOk ts f)  (hg : (NT.one).good) (hi : i ≤ ts.length) (hf : ts.length * 64 + (NT.one).rank < f + 1 + i * 64) : GdT (fun l j => szL l + 64 * i + (NT.one).lo ≤ (NT.one).sz + 64 * j + (NT.one).ad) (gr ts (f + 1) (NT.one) i) := by
  simp only [gr]
  repeat' first | (with_reducible refine gt_if (fun h => ?_) ?_) | ((with_reducible refine gt_wantB ?_); intro h) | ((with_reducible refine gt_wantK ?_ ?_); decide; intro h) | (with_reducible exact gt_er) | ((with_reducible refine gt_pk ?_); (simp only [NT.min, NT.sz, NT.lo, NT.ad, szN, szL, szL_app]; omega)) | ((with_reducible refine gt_ok ?_); (simp only [NT.min, NT.sz, NT.lo, NT.ad, szN, szL, szL_app]; omega)) | ((with_reducible refine ih.one ?_ ?_ ?_ ?_ ?_); (first | exact True.intro | simp [NT.good]); omega; (simp only [NT.rank] at hf ⊢; omega); rfl; intro t j g1 g3 g7; simp only [NT.min, NT.sz, NT.lo, NT.ad, szN, szL, szL_app] at g1 g7) | ((with_reducible refine ih.lst ?_ ?_ ?_ ?_); (first | exact True.intro | simp [NT.good]); omega; (simp only [NT.rank] at hf ⊢; omega); intro l j g1 g3 g7; simp only [NT.min, NT.sz, NT.lo, NT.ad, szN, szL, szL_app] at g1 g7) | ((with_reducible refine ih.nxt ?_ ?_ ?_ ?_); (first | exact True.intro | simp [NT.good]); omega; (simp only [NT.rank] at hf ⊢; omega); intro l j g1 g3 g7; simp only [NT.min, NT.sz, NT.lo, NT.ad, szN, szL, szL_app] at g1 g7 ⊢; omega) | (with_reducible refine gt_ite (fun h => ?_) (fun h => ?_))
theorem hh_places {ts : List PT} {f i : Nat} (ih : HtOk ts f)  (hg : (NT.places).good) (hi : i ≤ ts.length) (hf : ts.length * 64 + (NT.places).rank < f + 1 + i * 64) : GdT (fun l j => szL l + 64 * i + (NT.places).lo ≤ (NT.places).sz + 64 * j + (NT.places).ad) (gr ts (f + 1) (NT.places) i) := by
  simp only [gr]
  repeat' first | (with_reducible refine gt_if (fun h => ?_) ?_) | ((with_reducible refine gt_wantB ?_); intro h) | ((with_reducible refine gt_wantK ?_ ?_); decide; intro h) | (with_reducible exact gt_er) | ((with_reducible refine gt_pk ?_); (simp only [NT.min, NT.sz, NT.lo, NT.ad, szN, szL, szL_app]; omega)) | ((with_reducible refine gt_ok ?_); (simp only [NT.min, NT.sz, NT.lo, NT.ad, szN, szL, szL_app]; omega)) | ((with_reducible refine ih.one ?_ ?_ ?_ ?_ ?_); (first | exact True.intro | simp [NT.good]); omega; (simp only [NT.rank] at hf ⊢; omega); rfl; intro t j g1 g3 g7; simp only [NT.min, NT.sz, NT.lo, NT.ad, szN, szL, szL_app] at g1 g7) | ((with_reducible refine ih.lst ?_ ?_ ?_ ?_); (first | exact True.intro | simp [NT.good]); omega; (simp only [NT.rank] at hf ⊢; omega); intro l j g1 g3 g7; simp only [NT.min, NT.sz, NT.lo, NT.ad, szN, szL, szL_app] at g1 g7) | ((with_reducible refine ih.nxt ?_ ?_ ?_ ?_); (first | exact True.intro | simp [NT.good]); omega; (simp only [NT.rank] at hf ⊢; omega); intro l j g1 g3 g7; simp only [NT.min, NT.sz, NT.lo, NT.ad, szN, szL, szL_app] at g1 g7 ⊢; omega) | (with_reducible refine gt_ite (fun h => ?_) (fun h => ?_))
theorem hh_simple {ts : List PT} {f i : Nat} (ih : HtOk ts f)  (hg : (NT.simple).good) (hi : i ≤ ts.length) (hf : ts.length * 64 + (NT.simple).rank < f + 1 + i * 64) : GdT (fun l j => szL l + 64 * i + (NT.simple).lo ≤ (NT.simple).sz + 64 * j + (NT.simple).ad) (gr ts (f + 1) (NT.simple) i) := by
  simp only [gr]
  repeat' first | (with_reducible refine gt_if (fun h => ?_) ?_) | ((with_reducible refine gt_wantB ?_); intro h) | ((with_reducible refine gt_wantK ?_ ?_); decide; intro h) | (with_reducible exact gt_er) | ((with_reducible refine gt_pk ?_); (simp only [NT.min, NT.sz, NT.lo, NT.ad, szN, szL, szL_app]; omega)) | ((with_reducible refine gt_ok ?_); (simp only [NT.min, NT.sz, NT.lo, NT.ad, szN, szL, szL_app]; omega)) | ((with_reducible refine ih.one ?_ ?_ ?_ ?_ ?_); (first | exact True.intro | simp [NT.good]); omega; (simp only [NT.rank] at hf ⊢; omega); rfl; intro t j g1 g3 g7; simp only [NT.min, NT.sz, NT.lo, NT.ad, szN, szL, szL_app] at g1 g7) | ((with_reducible refine ih.lst ?_ ?_ ?_ ?_); (first | exact True.intro | simp [NT.good]); omega; (simp only [NT.rank] at hf ⊢; omega); intro l j g1 g3 g7; simp only [NT.min, NT.sz, NT.lo, NT.ad, szN, szL, szL_app] at g1 g7) | ((with_reducible refine ih.nxt ?_ ?_ ?_ ?_); (first | exact True.intro | simp [NT.good]); omega; (simp only [NT.rank] at hf ⊢; omega); intro l j g1 g3 g7; simp only [NT.min, NT.sz, NT.lo, NT.ad, szN, szL, szL_app] at g1 g7 ⊢; omega) | (with_reducible refine gt_ite (fun h => ?_) (fun h => ?_))
theorem hh_plain {ts : List PT} {f i : Nat} (ih : HtOk ts f)  (hg : (NT.plain).good) (hi : i ≤ ts.length) (hf : ts.length * 64 + (NT.plain).rank < f + 1 + i * 64) : GdT (fun l j => szL l + 64 * i + (NT.plain).lo ≤ (NT.plain).sz + 64 * j + (NT.plain).ad) (gr ts (f + 1) (NT.plain) i) := by
  simp only [gr]
  repeat' first | (have h0 := augT_lt h; clear h) | (with_reducible refine gt_if (fun h => ?_) ?_) | ((with_reducible refine gt_wantB ?_); intro h) | ((with_reducible refine gt_wantK ?_ ?_); decide; intro h) | (with_reducible exact gt_er) | ((with_reducible refine gt_pk ?_); (simp only [NT.min, NT.sz, NT.lo, NT.ad, szN, szL, szL_app]; omega)) | ((with_reducible refine gt_ok ?_); (simp only [NT.min, NT.sz, NT.lo, NT.ad, szN, szL, szL_app]; omega)) | ((with_reducible refine ih.one ?_ ?_ ?_ ?_ ?_); (first | exact True.intro | simp [NT.good]); omega; (simp only [NT.rank] at hf ⊢; omega); rfl; intro t j g1 g3 g7; simp only [NT.min, NT.sz, NT.lo, NT.ad, szN, szL, szL_app] at g1 g7) | ((with_reducible refine ih.lst ?_ ?_ ?_ ?_); (first | exact True.intro | simp [NT.good]); omega; (simp only [NT.rank] at hf ⊢; omega); intro l j g1 g3 g7; simp only [NT.min, NT.sz, NT.lo, NT.ad, szN, szL, szL_app] at g1 g7) | ((with_reducible refine ih.nxt ?_ ?_ ?_ ?_); (first | exact True.intro | simp [NT.good]); omega; (simp only [NT.rank] at hf ⊢; omega); intro l j g1 g3 g7; simp only [NT.min, NT.sz, NT.lo, NT.ad, szN, szL, szL_app] at g1 g7 ⊢; omega) | (with_reducible refine gt_ite (fun h => ?_) (fun h => ?_))
theorem hh_value {ts : List PT} {f i : Nat} (ih : HtOk ts f)  (hg : (NT.value).good) (hi : i ≤ ts.length) (hf : ts.length * 64 + (NT.value).rank < f + 1 + i * 64) : GdT (fun l j => szL l + 64 * i + (NT.value).lo ≤ (NT.value).sz + 64 * j + (NT.value).ad) (gr ts (f + 1) (NT.value) i) := by
  simp only [gr]
  repeat' first | (with_reducible refine gt_if (fun h => ?_) ?_) | ((with_reducible refine gt_wantB ?_); intro h) | ((with_reducible refine gt_wantK ?_ ?_); decide; intro h) | (with_reducible exact gt_er) | ((with_reducible refine gt_pk ?_); (simp only [NT.min, NT.sz, NT.lo, NT.ad, szN, szL, szL_app]; omega)) | ((with_reducible refine gt_ok ?_); (simp only [NT.min, NT.sz, NT.lo, NT.ad, szN, szL, szL_app]; omega)) | ((with_reducible refine ih.one ?_ ?_ ?_ ?_ ?_); (first | exact True.intro | simp [NT.good]); omega; (simp only [NT.rank] at hf ⊢; omega); rfl; intro t j g1 g3 g7; simp only [NT.min, NT.sz, NT.lo, NT.ad, szN, szL, szL_app] at g1 g7) | ((with_reducible refine ih.lst ?_ ?_ ?_ ?_); (first | exact True.intro | simp [NT.good]); omega; (simp only [NT.rank] at hf ⊢; omega); intro l j g1 g3 g7; simp only [NT.min, NT.sz, NT.lo, NT.ad, szN, szL, szL_app] at g1 g7) | ((with_reducible refine ih.nxt ?_ ?_ ?_ ?_); (first | exact True.intro | simp [NT.good]); omega; (simp only [NT.rank] at hf ⊢; omega); intro l j g1 g3 g7; simp only [NT.min, NT.sz, NT.lo, NT.ad, szN, szL, szL_app] at g1 g7 ⊢; omega) | (with_reducible refine gt_ite (fun h => ?_) (fun h => ?_))
theorem hh_block {ts : List PT} {f i : Nat} (ih : HtOk ts f)  (hg : (NT.block).good) (hi : i ≤ ts.length) (hf : ts.length * 64 + (NT.block).rank < f + 1 + i * 64) : GdT (fun l j => szL l + 64 * i + (NT.block).lo ≤ (NT.block).sz + 64 * j + (NT.block).ad) (gr ts (f + 1) (NT.block) i) := by
  simp only [gr]
  repeat' first | (have h0 := kd_lt (by rw [h]; decide); clear h) | (have h0 := kd_lt (i := i) (ts := ts) (by omega); clear h) | (with_reducible refine gt_if (fun h => ?_) ?_) | ((with_reducible refine gt_wantB ?_); intro h) | ((with_reducible refine gt_wantK ?_ ?_); decide; intro h) | (with_reducible exact gt_er) | ((with_reducible refine gt_pk ?_); (simp only [NT.min, NT.sz, NT.lo, NT.ad, szN, szL, szL_app]; omega)) | ((with_reducible refine gt_ok ?_); (simp only [NT.min, NT.sz, NT.lo, NT.ad, szN, szL, szL_app]; omega)) | ((with_reducible refine ih.one ?_ ?_ ?_ ?_ ?_); (first | exact True.intro | simp [NT.good]); omega; (simp only [NT.rank] at hf ⊢; omega); rfl; intro t j g1 g3 g7; simp only [NT.min, NT.sz, NT.lo, NT.ad, szN, szL, szL_app] at g1 g7) | ((with_reducible refine ih.lst ?_ ?_ ?_ ?_); (first | exact True.intro | simp [NT.good]); omega; (simp only [NT.rank] at hf ⊢; omega); intro l j g1 g3 g7; simp only [NT.min, NT.sz, NT.lo, NT.ad, szN, szL, szL_app] at g1 g7) | ((with_reducible refine ih.nxt ?_ ?_ ?_ ?_); (first | exact True.intro | simp [NT.good]); omega; (simp only [NT.rank] at hf ⊢; omega); intro l j g1 g3 g7; simp only [NT.min, NT.sz, NT.lo, NT.ad, szN, szL, szL_app] at g1 g7 ⊢; omega) | (with_reducible refine gt_ite (fun h => ?_) (fun h => ?_))
theorem hh_stmt {ts : List PT} {f i : Nat} (ih : HtOk ts f)  (hg : (NT.stmt).good) (hi : i ≤ ts.length) (hf : ts.length * 64 + (NT.stmt).rank < f + 1 + i * 64) : GdT (fun l j => szL l + 64 * i + (NT.stmt).lo ≤ (NT.stmt).sz + 64 * j + (NT.stmt).ad) (gr ts (f + 1) (NT.stmt) i) := by
  simp only [gr]
  repeat' first | (with_reducible refine gt_if (fun h => ?_) ?_) | ((with_reducible refine gt_wantB ?_); intro h) | ((with_reducible refine gt_wantK ?_ ?_); decide; intro h) | (with_reducible exact gt_er) | ((with_reducible refine gt_pk ?_); (simp only [NT.min, NT.sz, NT.lo, NT.ad, szN, szL, szL_app]; omega)) | ((with_reducible refine gt_ok ?_); (simp only [NT.min, NT.sz, NT.lo, NT.ad, szN, szL, szL_app]; omega)) | ((with_reducible refine ih.one ?_ ?_ ?_ ?_ ?_); (first | exact True.intro | simp [NT.good]); omega; (simp only [NT.rank] at hf ⊢; omega); rfl; intro t j g1 g3 g7; simp only [NT.min, NT.sz, NT.lo, NT.ad, szN, szL, szL_app] at g1 g7) | ((with_reducible refine ih.lst ?_ ?_ ?_ ?_); (first | exact True.intro | simp [NT.good]); omega; (simp only [NT.rank] at hf ⊢; omega); intro l j g1 g3 g7; simp only [NT.min, NT.sz, NT.lo, NT.ad, szN, szL, szL_app] at g1 g7) | ((with_reducible refine ih.nxt ?_ ?_ ?_ ?_); (first | exact True.intro | simp [NT.good]); omega; (simp only [NT.rank] at hf ⊢; omega); intro l j g1 g3 g7; simp only [NT.min, NT.sz, NT.lo, NT.ad, szN, szL, szL_app] at g1 g7 ⊢; omega) | (with_reducible refine gt_ite (fun h => ?_) (fun h => ?_))
theorem hh_params {ts : List PT} {f i : Nat} (ih : HtOk ts f) {a : List UInt8} {b : Int} {c : List Nd} (hg : (NT.params a b c).good) (hi : i ≤ ts.length) (hf : ts.length * 64 + (NT.params a b c).rank < f + 1 + i * 64) : GdT (fun l j => szL l + 64 * i + (NT.params a b c).lo ≤ (NT.params a b c).sz + 64 * j + (NT.params a b c).ad) (gr ts (f + 1) (NT.params a b c) i) := by
  simp only [gr]
  repeat' first | (with_reducible refine gt_if (fun h => ?_) ?_) | ((with_reducible refine gt_wantB ?_); intro h) | ((with_reducible refine gt_wantK ?_ ?_); decide; intro h) | (with_reducible exact gt_er) | ((with_reducible refine gt_pk ?_); (simp only [NT.min, NT.sz, NT.lo, NT.ad, szN, szL, szL_app]; omega)) | ((with_reducible refine gt_ok ?_); (simp only [NT.min, NT.sz, NT.lo, NT.ad, szN, szL, szL_app]; omega)) | ((with_reducible refine ih.one ?_ ?_ ?_ ?_ ?_); (first | exact True.intro | simp [NT.good]); omega; (simp only [NT.rank] at hf ⊢; omega); rfl; intro t j g1 g3 g7; simp only [NT.min, NT.sz, NT.lo, NT.ad, szN, szL, szL_app] at g1 g7) | ((with_reducible refine ih.lst ?_ ?_ ?_ ?_); (first | exact True.intro | simp [NT.good]); omega; (simp only [NT.rank] at hf ⊢; omega); intro l j g1 g3 g7; simp only [NT.min, NT.sz, NT.lo, NT.ad, szN, szL, szL_app] at g1 g7) | ((with_reducible refine ih.nxt ?_ ?_ ?_ ?_); (first | exact True.intro | simp [NT.good]); omega; (simp only [NT.rank] at hf ⊢; omega); intro l j g1 g3 g7; simp only [NT.min, NT.sz, NT.lo, NT.ad, szN, szL, szL_app] at g1 g7 ⊢; omega) | (with_reducible refine gt_ite (fun h => ?_) (fun h => ?_))
theorem hh_row {ts : List PT} {f i : Nat} (ih : HtOk ts f) {a : List UInt8} {b : List Nd} (hg : (NT.row a b).good) (hi : i ≤ ts.length) (hf : ts.length * 64 + (NT.row a b).rank < f + 1 + i * 64) : GdT (fun l j => szL l + 64 * i + (NT.row a b).lo ≤ (NT.row a b).sz + 64 * j + (NT.row a b).ad) (gr ts (f + 1) (NT.row a b) i) := by
  simp only [gr]
  repeat' first | (with_reducible refine gt_if (fun h => ?_) ?_) | ((with_reducible refine gt_wantB ?_); intro h) | ((with_reducible refine gt_wantK ?_ ?_); decide; intro h) | (with_reducible exact gt_er) | ((with_reducible refine gt_pk ?_); (simp only [NT.min, NT.sz, NT.lo, NT.ad, szN, szL, szL_app]; omega)) | ((with_reducible refine gt_ok ?_); (simp only [NT.min, NT.sz, NT.lo, NT.ad, szN, szL, szL_app]; omega)) | ((with_reducible refine ih.one ?_ ?_ ?_ ?_ ?_); (first | exact True.intro | simp [NT.good]); omega; (simp only [NT.rank] at hf ⊢; omega); rfl; intro t j g1 g3 g7; simp only [NT.min, NT.sz, NT.lo, NT.ad, szN, szL, szL_app] at g1 g7) | ((with_reducible refine ih.lst ?_ ?_ ?_ ?_); (first | exact True.intro | simp [NT.good]); omega; (simp only [NT.rank] at hf ⊢; omega); intro l j g1 g3 g7; simp only [NT.min, NT.sz, NT.lo, NT.ad, szN, szL, szL_app] at g1 g7) | ((with_reducible refine ih.nxt ?_ ?_ ?_ ?_); (first | exact True.intro | simp [NT.good]); omega; (simp only [NT.rank] at hf ⊢; omega); intro l j g1 g3 g7; simp only [NT.min, NT.sz, NT.lo, NT.ad, szN, szL, szL_app] at g1 g7 ⊢; omega) | (with_reducible refine gt_ite (fun h => ?_) (fun h => ?_))
theorem hh_exprsL {ts : List PT} {f i : Nat} (ih : HtOk ts f) {a : Int} {b : List Nd} (hg : (NT.exprsL a b).good) (hi : i ≤ ts.length) (hf : ts.length * 64 + (NT.exprsL a b).rank < f + 1 + i * 64) : GdT (fun l j => szL l + 64 * i + (NT.exprsL a b).lo ≤ (NT.exprsL a b).sz + 64 * j + (NT.exprsL a b).ad) (gr ts (f + 1) (NT.exprsL a b) i) := by
  simp only [gr]
  repeat' first | (with_reducible refine gt_if (fun h => ?_) ?_) | ((with_reducible refine gt_wantB ?_); intro h) | ((with_reducible refine gt_wantK ?_ ?_); decide; intro h) | (with_reducible exact gt_er) | ((with_reducible refine gt_pk ?_); (simp only [NT.min, NT.sz, NT.lo, NT.ad, szN, szL, szL_app]; omega)) | ((with_reducible refine gt_ok ?_); (simp only [NT.min, NT.sz, NT.lo, NT.ad, szN, szL, szL_app]; omega)) | ((with_reducible refine ih.one ?_ ?_ ?_ ?_ ?_); (first | exact True.intro | simp [NT.good]); omega; (simp only [NT.rank] at hf ⊢; omega); rfl; intro t j g1 g3 g7; simp only [NT.min, NT.sz, NT.lo, NT.ad, szN, szL, szL_app] at g1 g7) | ((with_reducible refine ih.lst ?_ ?_ ?_ ?_); (first | exact True.intro | simp [NT.good]); omega; (simp only [NT.rank] at hf ⊢; omega); intro l j g1 g3 g7; simp only [NT.min, NT.sz, NT.lo, NT.ad, szN, szL, szL_app] at g1 g7) | ((with_reducible refine ih.nxt ?_ ?_ ?_ ?_); (first | exact True.intro | simp [NT.good]); omega; (simp only [NT.rank] at hf ⊢; omega); intro l j g1 g3 g7; simp only [NT.min, NT.sz, NT.lo, NT.ad, szN, szL, szL_app] at g1 g7 ⊢; omega) | (with_reducible refine gt_ite (fun h => ?_) (fun h => ?_))
theorem hh_orL {ts : List PT} {f i : Nat} (ih : HtOk ts f) {a : Nd} (hg : (NT.orL a).good) (hi : i ≤ ts.length) (hf : ts.length * 64 + (NT.orL a).rank < f + 1 + i * 64) : GdT (fun l j => szL l + 64 * i + (NT.orL a).lo ≤ (NT.orL a).sz + 64 * j + (NT.orL a).ad) (gr ts (f + 1) (NT.orL a) i) := by
  simp only [gr]
  repeat' first | (with_reducible refine gt_if (fun h => ?_) ?_) | ((with_reducible refine gt_wantB ?_); intro h) | ((with_reducible refine gt_wantK ?_ ?_); decide; intro h) | (with_reducible exact gt_er) | ((with_reducible refine gt_pk ?_); (simp only [NT.min, NT.sz, NT.lo, NT.ad, szN, szL, szL_app]; omega)) | ((with_reducible refine gt_ok ?_); (simp only [NT.min, NT.sz, NT.lo, NT.ad, szN, szL, szL_app]; omega)) | ((with_reducible refine ih.one ?_ ?_ ?_ ?_ ?_); (first | exact True.intro | simp [NT.good]); omega; (simp only [NT.rank] at hf ⊢; omega); rfl; intro t j g1 g3 g7; simp only [NT.min, NT.sz, NT.lo, NT.ad, szN, szL, szL_app] at g1 g7) | ((with_reducible refine ih.lst ?_ ?_ ?_ ?_); (first | exact True.intro | simp [NT.good]); omega; (simp only [NT.rank] at hf ⊢; omega); intro l j g1 g3 g7; simp only [NT.min, NT.sz, NT.lo, NT.ad, szN, szL, szL_app] at g1 g7) | ((with_reducible refine ih.nxt ?_ ?_ ?_ ?_); (first | exact True.intro | simp [NT.good]); omega; (simp only [NT.rank] at hf ⊢; omega); intro l j g1 g3 g7; simp only [NT.min, NT.sz, NT.lo, NT.ad, szN, szL, szL_app] at g1 g7 ⊢; omega) | (with_reducible refine gt_ite (fun h => ?_) (fun h => ?_))
theorem hh_andL {ts : List PT} {f i : Nat} (ih : HtOk ts f) {a : Nd} (hg : (NT.andL a).good) (hi : i ≤ ts.length) (hf : ts.length * 64 + (NT.andL a).rank < f + 1 + i * 64) : GdT (fun l j => szL l + 64 * i + (NT.andL a).lo ≤ (NT.andL a).sz + 64 * j + (NT.andL a).ad) (gr ts (f + 1) (NT.andL a) i) := by
  simp only [gr]
  repeat' first | (with_reducible refine gt_if (fun h => ?_) ?_) | ((with_reducible refine gt_wantB ?_); intro h) | ((with_reducible refine gt_wantK ?_ ?_); decide; intro h) | (with_reducible exact gt_er) | ((with_reducible refine gt_pk ?_); (simp only [NT.min, NT.sz, NT.lo, NT.ad, szN, szL, szL_app]; omega)) | ((with_reducible refine gt_ok ?_); (simp only [NT.min, NT.sz, NT.lo, NT.ad, szN, szL, szL_app]; omega)) | ((with_reducible refine ih.one ?_ ?_ ?_ ?_ ?_); (first | exact True.intro | simp [NT.good]); omega; (simp only [NT.rank] at hf ⊢; omega); rfl; intro t j g1 g3 g7; simp only [NT.min, NT.sz, NT.lo, NT.ad, szN, szL, szL_app] at g1 g7) | ((with_reducible refine ih.lst ?_ ?_ ?_ ?_); (first | exact True.intro | simp [NT.good]); omega; (simp only [NT.rank] at hf ⊢; omega); intro l j g1 g3 g7; simp only [NT.min, NT.sz, NT.lo, NT.ad, szN, szL, szL_app] at g1 g7) | ((with_reducible refine ih.nxt ?_ ?_ ?_ ?_); (first | exact True.intro | simp [NT.good]); omega; (simp only [NT.rank] at hf ⊢; omega); intro l j g1 g3 g7; simp only [NT.min, NT.sz, NT.lo, NT.ad, szN, szL, szL_app] at g1 g7 ⊢; omega) | (with_reducible refine gt_ite (fun h => ?_) (fun h => ?_))
theorem hh_cmpL {ts : List PT} {f i : Nat} (ih : HtOk ts f) {a : Nd} {b : List Nd} (hg : (NT.cmpL a b).good) (hi : i ≤ ts.length) (hf : ts.length * 64 + (NT.cmpL a b).rank < f + 1 + i * 64) : GdT (fun l j => szL l + 64 * i + (NT.cmpL a b).lo ≤ (NT.cmpL a b).sz + 64 * j + (NT.cmpL a b).ad) (gr ts (f + 1) (NT.cmpL a b) i) := by
  simp only [gr]
  have ho := opT_gd hi
  split
  · exact trivial
  · rename_i j h
    cases hb : b.isEmpty
    · simp only [Bool.false_eq_true, if_false]
      repeat' first | (with_reducible refine gt_if (fun h => ?_) ?_) | ((with_reducible refine gt_wantB ?_); intro h) | ((with_reducible refine gt_wantK ?_ ?_); decide; intro h) | (with_reducible exact gt_er) | ((with_reducible refine gt_pk ?_); (simp only [NT.min, NT.sz, NT.lo, NT.ad, szN, szL, szL_app]; omega)) | ((with_reducible refine gt_ok ?_); (simp only [NT.min, NT.sz, NT.lo, NT.ad, szN, szL, szL_app]; omega)) | ((with_reducible refine ih.one ?_ ?_ ?_ ?_ ?_); (first | exact True.intro | simp [NT.good]); omega; (simp only [NT.rank] at hf ⊢; omega); rfl; intro t j g1 g3 g7; simp only [NT.min, NT.sz, NT.lo, NT.ad, szN, szL, szL_app] at g1 g7) | ((with_reducible refine ih.lst ?_ ?_ ?_ ?_); (first | exact True.intro | simp [NT.good]); omega; (simp only [NT.rank] at hf ⊢; omega); intro l j g1 g3 g7; simp only [NT.min, NT.sz, NT.lo, NT.ad, szN, szL, szL_app] at g1 g7) | ((with_reducible refine ih.nxt ?_ ?_ ?_ ?_); (first | exact True.intro | simp [NT.good]); omega; (simp only [NT.rank] at hf ⊢; omega); intro l j g1 g3 g7; simp only [NT.min, NT.sz, NT.lo, NT.ad, szN, szL, szL_app] at g1 g7 ⊢; omega) | (with_reducible refine gt_ite (fun h => ?_) (fun h => ?_))
    · simp only [if_true]
      repeat' first | (with_reducible refine gt_if (fun h => ?_) ?_) | ((with_reducible refine gt_wantB ?_); intro h) | ((with_reducible refine gt_wantK ?_ ?_); decide; intro h) | (with_reducible exact gt_er) | ((with_reducible refine gt_pk ?_); (simp only [NT.min, NT.sz, NT.lo, NT.ad, szN, szL, szL_app]; omega)) | ((with_reducible refine gt_ok ?_); (simp only [NT.min, NT.sz, NT.lo, NT.ad, szN, szL, szL_app]; omega)) | ((with_reducible refine ih.one ?_ ?_ ?_ ?_ ?_); (first | exact True.intro | simp [NT.good]); omega; (simp only [NT.rank] at hf ⊢; omega); rfl; intro t j g1 g3 g7; simp only [NT.min, NT.sz, NT.lo, NT.ad, szN, szL, szL_app] at g1 g7) | ((with_reducible refine ih.lst ?_ ?_ ?_ ?_); (first | exact True.intro | simp [NT.good]); omega; (simp only [NT.rank] at hf ⊢; omega); intro l j g1 g3 g7; simp only [NT.min, NT.sz, NT.lo, NT.ad, szN, szL, szL_app] at g1 g7) | ((with_reducible refine ih.nxt ?_ ?_ ?_ ?_); (first | exact True.intro | simp [NT.good]); omega; (simp only [NT.rank] at hf ⊢; omega); intro l j g1 g3 g7; simp only [NT.min, NT.sz, NT.lo, NT.ad, szN, szL, szL_app] at g1 g7 ⊢; omega) | (with_reducible refine gt_ite (fun h => ?_) (fun h => ?_))
  · rename_i op j h
    rw [h] at ho
    have ho : i < j ∧ j ≤ ts.length := by rcases ho with ⟨h, _⟩ | ⟨_, h⟩; cases h; exact h
    repeat' first | (with_reducible refine gt_if (fun h => ?_) ?_) | ((with_reducible refine gt_wantB ?_); intro h) | ((with_reducible refine gt_wantK ?_ ?_); decide; intro h) | (with_reducible exact gt_er) | ((with_reducible refine gt_pk ?_); (simp only [NT.min, NT.sz, NT.lo, NT.ad, szN, szL, szL_app]; omega)) | ((with_reducible refine gt_ok ?_); (simp only [NT.min, NT.sz, NT.lo, NT.ad, szN, szL, szL_app]; omega)) | ((with_reducible refine ih.one ?_ ?_ ?_ ?_ ?_); (first | exact True.intro | simp [NT.good]); omega; (simp only [NT.rank] at hf ⊢; omega); rfl; intro t j g1 g3 g7; simp only [NT.min, NT.sz, NT.lo, NT.ad, szN, szL, szL_app] at g1 g7) | ((with_reducible refine ih.lst ?_ ?_ ?_ ?_); (first | exact True.intro | simp [NT.good]); omega; (simp only [NT.rank] at hf ⊢; omega); intro l j g1 g3 g7; simp only [NT.min, NT.sz, NT.lo, NT.ad, szN, szL, szL_app] at g1 g7) | ((with_reducible refine ih.nxt ?_ ?_ ?_ ?_); (first | exact True.intro | simp [NT.good]); omega; (simp only [NT.rank] at hf ⊢; omega); intro l j g1 g3 g7; simp only [NT.min, NT.sz, NT.lo, NT.ad, szN, szL, szL_app] at g1 g7 ⊢; omega) | (with_reducible refine gt_ite (fun h => ?_) (fun h => ?_))
theorem hh_arithL {ts : List PT} {f i : Nat} (ih : HtOk ts f) {a : Nd} (hg : (NT.arithL a).good) (hi : i ≤ ts.length) (hf : ts.length * 64 + (NT.arithL a).rank < f + 1 + i * 64) : GdT (fun l j => szL l + 64 * i + (NT.arithL a).lo ≤ (NT.arithL a).sz + 64 * j + (NT.arithL a).ad) (gr ts (f + 1) (NT.arithL a) i) := by
  simp only [gr]
  repeat' first | (with_reducible refine gt_if (fun h => ?_) ?_) | ((with_reducible refine gt_wantB ?_); intro h) | ((with_reducible refine gt_wantK ?_ ?_); decide; intro h) | (with_reducible exact gt_er) | ((with_reducible refine gt_pk ?_); (simp only [NT.min, NT.sz, NT.lo, NT.ad, szN, szL, szL_app]; omega)) | ((with_reducible refine gt_ok ?_); (simp only [NT.min, NT.sz, NT.lo, NT.ad, szN, szL, szL_app]; omega)) | ((with_reducible refine ih.one ?_ ?_ ?_ ?_ ?_); (first | exact True.intro | simp [NT.good]); omega; (simp only [NT.rank] at hf ⊢; omega); rfl; intro t j g1 g3 g7; simp only [NT.min, NT.sz, NT.lo, NT.ad, szN, szL, szL_app] at g1 g7) | ((with_reducible refine ih.lst ?_ ?_ ?_ ?_); (first | exact True.intro | simp [NT.good]); omega; (simp only [NT.rank] at hf ⊢; omega); intro l j g1 g3 g7; simp only [NT.min, NT.sz, NT.lo, NT.ad, szN, szL, szL_app] at g1 g7) | ((with_reducible refine ih.nxt ?_ ?_ ?_ ?_); (first | exact True.intro | simp [NT.good]); omega; (simp only [NT.rank] at hf ⊢; omega); intro l j g1 g3 g7; simp only [NT.min, NT.sz, NT.lo, NT.ad, szN, szL, szL_app] at g1 g7 ⊢; omega) | (with_reducible refine gt_ite (fun h => ?_) (fun h => ?_))
theorem hh_termL {ts : List PT} {f i : Nat} (ih : HtOk ts f) {a : Nd} (hg : (NT.termL a).good) (hi : i ≤ ts.length) (hf : ts.length * 64 + (NT.termL a).rank < f + 1 + i * 64) : GdT (fun l j => szL l + 64 * i + (NT.termL a).lo ≤ (NT.termL a).sz + 64 * j + (NT.termL a).ad) (gr ts (f + 1) (NT.termL a) i) := by
  simp only [gr]
  repeat' first | (with_reducible refine gt_if (fun h => ?_) ?_) | ((with_reducible refine gt_wantB ?_); intro h) | ((with_reducible refine gt_wantK ?_ ?_); decide; intro h) | (with_reducible exact gt_er) | ((with_reducible refine gt_pk ?_); (simp only [NT.min, NT.sz, NT.lo, NT.ad, szN, szL, szL_app]; omega)) | ((with_reducible refine gt_ok ?_); (simp only [NT.min, NT.sz, NT.lo, NT.ad, szN, szL, szL_app]; omega)) | ((with_reducible refine ih.one ?_ ?_ ?_ ?_ ?_); (first | exact True.intro | simp [NT.good]); omega; (simp only [NT.rank] at hf ⊢; omega); rfl; intro t j g1 g3 g7; simp only [NT.min, NT.sz, NT.lo, NT.ad, szN, szL, szL_app] at g1 g7) | ((with_reducible refine ih.lst ?_ ?_ ?_ ?_); (first | exact True.intro | simp [NT.good]); omega; (simp only [NT.rank] at hf ⊢; omega); intro l j g1 g3 g7; simp only [NT.min, NT.sz, NT.lo, NT.ad, szN, szL, szL_app] at g1 g7) | ((with_reducible refine ih.nxt ?_ ?_ ?_ ?_); (first | exact True.intro | simp [NT.good]); omega; (simp only [NT.rank] at hf ⊢; omega); intro l j g1 g3 g7; simp only [NT.min, NT.sz, NT.lo, NT.ad, szN, szL, szL_app] at g1 g7 ⊢; omega) | (with_reducible refine gt_ite (fun h => ?_) (fun h => ?_))
theorem hh_primL {ts : List PT} {f i : Nat} (ih : HtOk ts f) {a : Nd} (hg : (NT.primL a).good) (hi : i ≤ ts.length) (hf : ts.length * 64 + (NT.primL a).rank < f + 1 + i * 64) : GdT (fun l j => szL l + 64 * i + (NT.primL a).lo ≤ (NT.primL a).sz + 64 * j + (NT.primL a).ad) (gr ts (f + 1) (NT.primL a) i) := by
  simp only [gr]
  repeat' first | (with_reducible refine gt_if (fun h => ?_) ?_) | ((with_reducible refine gt_wantB ?_); intro h) | ((with_reducible refine gt_wantK ?_ ?_); decide; intro h) | (with_reducible exact gt_er) | ((with_reducible refine gt_pk ?_); (simp only [NT.min, NT.sz, NT.lo, NT.ad, szN, szL, szL_app]; omega)) | ((with_reducible refine gt_ok ?_); (simp only [NT.min, NT.sz, NT.lo, NT.ad, szN, szL, szL_app]; omega)) | ((with_reducible refine ih.one ?_ ?_ ?_ ?_ ?_); (first | exact True.intro | simp [NT.good]); omega; (simp only [NT.rank] at hf ⊢; omega); rfl; intro t j g1 g3 g7; simp only [NT.min, NT.sz, NT.lo, NT.ad, szN, szL, szL_app] at g1 g7) | ((with_reducible refine ih.lst ?_ ?_ ?_ ?_); (first | exact True.intro | simp [NT.good]); omega; (simp only [NT.rank] at hf ⊢; omega); intro l j g1 g3 g7; simp only [NT.min, NT.sz, NT.lo, NT.ad, szN, szL, szL_app] at g1 g7) | ((with_reducible refine ih.nxt ?_ ?_ ?_ ?_); (first | exact True.intro | simp [NT.good]); omega; (simp only [NT.rank] at hf ⊢; omega); intro l j g1 g3 g7; simp only [NT.min, NT.sz, NT.lo, NT.ad, szN, szL, szL_app] at g1 g7 ⊢; omega) | (with_reducible refine gt_ite (fun h => ?_) (fun h => ?_))
theorem hh_index {ts : List PT} {f i : Nat} (ih : HtOk ts f) {a : Nd} (hg : (NT.index a).good) (hi : i ≤ ts.length) (hf : ts.length * 64 + (NT.index a).rank < f + 1 + i * 64) : GdT (fun l j => szL l + 64 * i + (NT.index a).lo ≤ (NT.index a).sz + 64 * j + (NT.index a).ad) (gr ts (f + 1) (NT.index a) i) := by
  simp only [gr]
  repeat' first | (with_reducible refine gt_if (fun h => ?_) ?_) | ((with_reducible refine gt_wantB ?_); intro h) | ((with_reducible refine gt_wantK ?_ ?_); decide; intro h) | (with_reducible exact gt_er) | ((with_reducible refine gt_pk ?_); (simp only [NT.min, NT.sz, NT.lo, NT.ad, szN, szL, szL_app]; omega)) | ((with_reducible refine gt_ok ?_); (simp only [NT.min, NT.sz, NT.lo, NT.ad, szN, szL, szL_app]; omega)) | ((with_reducible refine ih.one ?_ ?_ ?_ ?_ ?_); (first | exact True.intro | simp [NT.good]); omega; (simp only [NT.rank] at hf ⊢; omega); rfl; intro t j g1 g3 g7; simp only [NT.min, NT.sz, NT.lo, NT.ad, szN, szL, szL_app] at g1 g7) | ((with_reducible refine ih.lst ?_ ?_ ?_ ?_); (first | exact True.intro | simp [NT.good]); omega; (simp only [NT.rank] at hf ⊢; omega); intro l j g1 g3 g7; simp only [NT.min, NT.sz, NT.lo, NT.ad, szN, szL, szL_app] at g1 g7) | ((with_reducible refine ih.nxt ?_ ?_ ?_ ?_); (first | exact True.intro | simp [NT.good]); omega; (simp only [NT.rank] at hf ⊢; omega); intro l j g1 g3 g7; simp only [NT.min, NT.sz, NT.lo, NT.ad, szN, szL, szL_app] at g1 g7 ⊢; omega) | (with_reducible refine gt_ite (fun h => ?_) (fun h => ?_))
theorem hh_clauses {ts : List PT} {f i : Nat} (ih : HtOk ts f) {a : List Nd} (hg : (NT.clauses a).good) (hi : i ≤ ts.length) (hf : ts.length * 64 + (NT.clauses a).rank < f + 1 + i * 64) : GdT (fun l j => szL l + 64 * i + (NT.clauses a).lo ≤ (NT.clauses a).sz + 64 * j + (NT.clauses a).ad) (gr ts (f + 1) (NT.clauses a) i) := by
  simp only [gr]
  repeat' first | (with_reducible refine gt_if (fun h => ?_) ?_) | ((with_reducible refine gt_wantB ?_); intro h) | ((with_reducible refine gt_wantK ?_ ?_); decide; intro h) | (with_reducible exact gt_er) | ((with_reducible refine gt_pk ?_); (simp only [NT.min, NT.sz, NT.lo, NT.ad, szN, szL, szL_app]; omega)) | ((with_reducible refine gt_ok ?_); (simp only [NT.min, NT.sz, NT.lo, NT.ad, szN, szL, szL_app]; omega)) | ((with_reducible refine ih.one ?_ ?_ ?_ ?_ ?_); (first | exact True.intro | simp [NT.good]); omega; (simp only [NT.rank] at hf ⊢; omega); rfl; intro t j g1 g3 g7; simp only [NT.min, NT.sz, NT.lo, NT.ad, szN, szL, szL_app] at g1 g7) | ((with_reducible refine ih.lst ?_ ?_ ?_ ?_); (first | exact True.intro | simp [NT.good]); omega; (simp only [NT.rank] at hf ⊢; omega); intro l j g1 g3 g7; simp only [NT.min, NT.sz, NT.lo, NT.ad, szN, szL, szL_app] at g1 g7) | ((with_reducible refine ih.nxt ?_ ?_ ?_ ?_); (first | exact True.intro | simp [NT.good]); omega; (simp only [NT.rank] at hf ⊢; omega); intro l j g1 g3 g7; simp only [NT.min, NT.sz, NT.lo, NT.ad, szN, szL, szL_app] at g1 g7 ⊢; omega) | (with_reducible refine gt_ite (fun h => ?_) (fun h => ?_))
theorem hh_list {ts : List PT} {f i : Nat} (ih : HtOk ts f) {a : Int} (hg : (NT.list a).good) (hi : i ≤ ts.length) (hf : ts.length * 64 + (NT.list a).rank < f + 1 + i * 64) : GdT (fun l j => szL l + 64 * i + (NT.list a).lo ≤ (NT.list a).sz + 64 * j + (NT.list a).ad) (gr ts (f + 1) (NT.list a) i) := by
  simp only [gr]
  repeat' first | (with_reducible refine gt_if (fun h => ?_) ?_) | ((with_reducible refine gt_wantB ?_); intro h) | ((with_reducible refine gt_wantK ?_ ?_); decide; intro h) | (with_reducible exact gt_er) | ((with_reducible refine gt_pk ?_); (simp only [NT.min, NT.sz, NT.lo, NT.ad, szN, szL, szL_app]; omega)) | ((with_reducible refine gt_ok ?_); (simp only [NT.min, NT.sz, NT.lo, NT.ad, szN, szL, szL_app]; omega)) | ((with_reducible refine ih.one ?_ ?_ ?_ ?_ ?_); (first | exact True.intro | simp [NT.good]); omega; (simp only [NT.rank] at hf ⊢; omega); rfl; intro t j g1 g3 g7; simp only [NT.min, NT.sz, NT.lo, NT.ad, szN, szL, szL_app] at g1 g7) | ((with_reducible refine ih.lst ?_ ?_ ?_ ?_); (first | exact True.intro | simp [NT.good]); omega; (simp only [NT.rank] at hf ⊢; omega); intro l j g1 g3 g7; simp only [NT.min, NT.sz, NT.lo, NT.ad, szN, szL, szL_app] at g1 g7) | ((with_reducible refine ih.nxt ?_ ?_ ?_ ?_); (first | exact True.intro | simp [NT.good]); omega; (simp only [NT.rank] at hf ⊢; omega); intro l j g1 g3 g7; simp only [NT.min, NT.sz, NT.lo, NT.ad, szN, szL, szL_app] at g1 g7 ⊢; omega) | (with_reducible refine gt_ite (fun h => ?_) (fun h => ?_))
theorem hh_braces {ts : List PT} {f i : Nat} (ih : HtOk ts f) {a : Int} (hg : (NT.braces a).good) (hi : i ≤ ts.length) (hf : ts.length * 64 + (NT.braces a).rank < f + 1 + i * 64) : GdT (fun l j => szL l + 64 * i + (NT.braces a).lo ≤ (NT.braces a).sz + 64 * j + (NT.braces a).ad) (gr ts (f + 1) (NT.braces a) i) := by
  simp only [gr]
  repeat' first | (with_reducible refine gt_if (fun h => ?_) ?_) | ((with_reducible refine gt_wantB ?_); intro h) | ((with_reducible refine gt_wantK ?_ ?_); decide; intro h) | (with_reducible exact gt_er) | ((with_reducible refine gt_pk ?_); (simp only [NT.min, NT.sz, NT.lo, NT.ad, szN, szL, szL_app]; omega)) | ((with_reducible refine gt_ok ?_); (simp only [NT.min, NT.sz, NT.lo, NT.ad, szN, szL, szL_app]; omega)) | ((with_reducible refine ih.one ?_ ?_ ?_ ?_ ?_); (first | exact True.intro | simp [NT.good]); omega; (simp only [NT.rank] at hf ⊢; omega); rfl; intro t j g1 g3 g7; simp only [NT.min, NT.sz, NT.lo, NT.ad, szN, szL, szL_app] at g1 g7) | ((with_reducible refine ih.lst ?_ ?_ ?_ ?_); (first | exact True.intro | simp [NT.good]); omega; (simp only [NT.rank] at hf ⊢; omega); intro l j g1 g3 g7; simp only [NT.min, NT.sz, NT.lo, NT.ad, szN, szL, szL_app] at g1 g7) | ((with_reducible refine ih.nxt ?_ ?_ ?_ ?_); (first | exact True.intro | simp [NT.good]); omega; (simp only [NT.rank] at hf ⊢; omega); intro l j g1 g3 g7; simp only [NT.min, NT.sz, NT.lo, NT.ad, szN, szL, szL_app] at g1 g7 ⊢; omega) | (with_reducible refine gt_ite (fun h => ?_) (fun h => ?_))
theorem hh_dictL {ts : List PT} {f i : Nat} (ih : HtOk ts f) {a : Int} {b : List Nd} (hg : (NT.dictL a b).good) (hi : i ≤ ts.length) (hf : ts.length * 64 + (NT.dictL a b).rank < f + 1 + i * 64) : GdT (fun l j => szL l + 64 * i + (NT.dictL a b).lo ≤ (NT.dictL a b).sz + 64 * j + (NT.dictL a b).ad) (gr ts (f + 1) (NT.dictL a b) i) := by
  simp only [gr]
  repeat' first | (with_reducible refine gt_if (fun h => ?_) ?_) | ((with_reducible refine gt_wantB ?_); intro h) | ((with_reducible refine gt_wantK ?_ ?_); decide; intro h) | (with_reducible exact gt_er) | ((with_reducible refine gt_pk ?_); (simp only [NT.min, NT.sz, NT.lo, NT.ad, szN, szL, szL_app]; omega)) | ((with_reducible refine gt_ok ?_); (simp only [NT.min, NT.sz, NT.lo, NT.ad, szN, szL, szL_app]; omega)) | ((with_reducible refine ih.one ?_ ?_ ?_ ?_ ?_); (first | exact True.intro | simp [NT.good]); omega; (simp only [NT.rank] at hf ⊢; omega); rfl; intro t j g1 g3 g7; simp only [NT.min, NT.sz, NT.lo, NT.ad, szN, szL, szL_app] at g1 g7) | ((with_reducible refine ih.lst ?_ ?_ ?_ ?_); (first | exact True.intro | simp [NT.good]); omega; (simp only [NT.rank] at hf ⊢; omega); intro l j g1 g3 g7; simp only [NT.min, NT.sz, NT.lo, NT.ad, szN, szL, szL_app] at g1 g7) | ((with_reducible refine ih.nxt ?_ ?_ ?_ ?_); (first | exact True.intro | simp [NT.good]); omega; (simp only [NT.rank] at hf ⊢; omega); intro l j g1 g3 g7; simp only [NT.min, NT.sz, NT.lo, NT.ad, szN, szL, szL_app] at g1 g7 ⊢; omega) | (with_reducible refine gt_ite (fun h => ?_) (fun h => ?_))
theorem hh_placesL {ts : List PT} {f i : Nat} (ih : HtOk ts f) {a : Int} {b : List Nd} (hg : (NT.placesL a b).good) (hi : i ≤ ts.length) (hf : ts.length * 64 + (NT.placesL a b).rank < f + 1 + i * 64) : GdT (fun l j => szL l + 64 * i + (NT.placesL a b).lo ≤ (NT.placesL a b).sz + 64 * j + (NT.placesL a b).ad) (gr ts (f + 1) (NT.placesL a b) i) := by
  simp only [gr]
  repeat' first | (with_reducible refine gt_if (fun h => ?_) ?_) | ((with_reducible refine gt_wantB ?_); intro h) | ((with_reducible refine gt_wantK ?_ ?_); decide; intro h) | (with_reducible exact gt_er) | ((with_reducible refine gt_pk ?_); (simp only [NT.min, NT.sz, NT.lo, NT.ad, szN, szL, szL_app]; omega)) | ((with_reducible refine gt_ok ?_); (simp only [NT.min, NT.sz, NT.lo, NT.ad, szN, szL, szL_app]; omega)) | ((with_reducible refine ih.one ?_ ?_ ?_ ?_ ?_); (first | exact True.intro | simp [NT.good]); omega; (simp only [NT.rank] at hf ⊢; omega); rfl; intro t j g1 g3 g7; simp only [NT.min, NT.sz, NT.lo, NT.ad, szN, szL, szL_app] at g1 g7) | ((with_reducible refine ih.lst ?_ ?_ ?_ ?_); (first | exact True.intro | simp [NT.good]); omega; (simp only [NT.rank] at hf ⊢; omega); intro l j g1 g3 g7; simp only [NT.min, NT.sz, NT.lo, NT.ad, szN, szL, szL_app] at g1 g7) | ((with_reducible refine ih.nxt ?_ ?_ ?_ ?_); (first | exact True.intro | simp [NT.good]); omega; (simp only [NT.rank] at hf ⊢; omega); intro l j g1 g3 g7; simp only [NT.min, NT.sz, NT.lo, NT.ad, szN, szL, szL_app] at g1 g7 ⊢; omega) | (with_reducible refine gt_ite (fun h => ?_) (fun h => ?_))
theorem hh_names {ts : List PT} {f i : Nat} (ih : HtOk ts f) {a : Nat} {b : Int} {c : List Nd} (hg : (NT.names a b c).good) (hi : i ≤ ts.length) (hf : ts.length * 64 + (NT.names a b c).rank < f + 1 + i * 64) : GdT (fun l j => szL l + 64 * i + (NT.names a b c).lo ≤ (NT.names a b c).sz + 64 * j + (NT.names a b c).ad) (gr ts (f + 1) (NT.names a b c) i) := by
  simp only [gr]
  repeat' first | (with_reducible refine gt_if (fun h => ?_) ?_) | ((with_reducible refine gt_wantB ?_); intro h) | ((with_reducible refine gt_wantK ?_ ?_); decide; intro h) | (with_reducible exact gt_er) | ((with_reducible refine gt_pk ?_); (simp only [NT.min, NT.sz, NT.lo, NT.ad, szN, szL, szL_app]; omega)) | ((with_reducible refine gt_ok ?_); (simp only [NT.min, NT.sz, NT.lo, NT.ad, szN, szL, szL_app]; omega)) | ((with_reducible refine ih.one ?_ ?_ ?_ ?_ ?_); (first | exact True.intro | simp [NT.good]); omega; (simp only [NT.rank] at hf ⊢; omega); rfl; intro t j g1 g3 g7; simp only [NT.min, NT.sz, NT.lo, NT.ad, szN, szL, szL_app] at g1 g7) | ((with_reducible refine ih.lst ?_ ?_ ?_ ?_); (first | exact True.intro | simp [NT.good]); omega; (simp only [NT.rank] at hf ⊢; omega); intro l j g1 g3 g7; simp only [NT.min, NT.sz, NT.lo, NT.ad, szN, szL, szL_app] at g1 g7) | ((with_reducible refine ih.nxt ?_ ?_ ?_ ?_); (first | exact True.intro | simp [NT.good]); omega; (simp only [NT.rank] at hf ⊢; omega); intro l j g1 g3 g7; simp only [NT.min, NT.sz, NT.lo, NT.ad, szN, szL, szL_app] at g1 g7 ⊢; omega) | (with_reducible refine gt_ite (fun h => ?_) (fun h => ?_))
theorem hh_maybe {ts : List PT} {f i : Nat} (ih : HtOk ts f) {a : Nat} {b : Int} {c : Bool} (hg : (NT.maybe a b c).good) (hi : i ≤ ts.length) (hf : ts.length * 64 + (NT.maybe a b c).rank < f + 1 + i * 64) : GdT (fun l j => szL l + 64 * i + (NT.maybe a b c).lo ≤ (NT.maybe a b c).sz + 64 * j + (NT.maybe a b c).ad) (gr ts (f + 1) (NT.maybe a b c) i) := by
  simp only [gr]
  cases c
  · simp only [Bool.false_eq_true, if_false]
    repeat' first | (with_reducible refine gt_if (fun h => ?_) ?_) | ((with_reducible refine gt_wantB ?_); intro h) | ((with_reducible refine gt_wantK ?_ ?_); decide; intro h) | (with_reducible exact gt_er) | ((with_reducible refine gt_pk ?_); (simp only [NT.min, NT.sz, NT.lo, NT.ad, szN, szL, szL_app]; omega)) | ((with_reducible refine gt_ok ?_); (simp only [NT.min, NT.sz, NT.lo, NT.ad, szN, szL, szL_app]; omega)) | ((with_reducible refine ih.one ?_ ?_ ?_ ?_ ?_); (first | exact True.intro | simp [NT.good]); omega; (simp only [NT.rank] at hf ⊢; omega); rfl; intro t j g1 g3 g7; simp only [NT.min, NT.sz, NT.lo, NT.ad, szN, szL, szL_app] at g1 g7) | ((with_reducible refine ih.lst ?_ ?_ ?_ ?_); (first | exact True.intro | simp [NT.good]); omega; (simp only [NT.rank] at hf ⊢; omega); intro l j g1 g3 g7; simp only [NT.min, NT.sz, NT.lo, NT.ad, szN, szL, szL_app] at g1 g7) | ((with_reducible refine ih.nxt ?_ ?_ ?_ ?_); (first | exact True.intro | simp [NT.good]); omega; (simp only [NT.rank] at hf ⊢; omega); intro l j g1 g3 g7; simp only [NT.min, NT.sz, NT.lo, NT.ad, szN, szL, szL_app] at g1 g7 ⊢; omega) | (with_reducible refine gt_ite (fun h => ?_) (fun h => ?_))
  · simp only [if_true]
    repeat' first | (with_reducible refine gt_if (fun h => ?_) ?_) | ((with_reducible refine gt_wantB ?_); intro h) | ((with_reducible refine gt_wantK ?_ ?_); decide; intro h) | (with_reducible exact gt_er) | ((with_reducible refine gt_pk ?_); (simp only [NT.min, NT.sz, NT.lo, NT.ad, szN, szL, szL_app]; omega)) | ((with_reducible refine gt_ok ?_); (simp only [NT.min, NT.sz, NT.lo, NT.ad, szN, szL, szL_app]; omega)) | ((with_reducible refine ih.one ?_ ?_ ?_ ?_ ?_); (first | exact True.intro | simp [NT.good]); omega; (simp only [NT.rank] at hf ⊢; omega); rfl; intro t j g1 g3 g7; simp only [NT.min, NT.sz, NT.lo, NT.ad, szN, szL, szL_app] at g1 g7) | ((with_reducible refine ih.lst ?_ ?_ ?_ ?_); (first | exact True.intro | simp [NT.good]); omega; (simp only [NT.rank] at hf ⊢; omega); intro l j g1 g3 g7; simp only [NT.min, NT.sz, NT.lo, NT.ad, szN, szL, szL_app] at g1 g7) | ((with_reducible refine ih.nxt ?_ ?_ ?_ ?_); (first | exact True.intro | simp [NT.good]); omega; (simp only [NT.rank] at hf ⊢; omega); intro l j g1 g3 g7; simp only [NT.min, NT.sz, NT.lo, NT.ad, szN, szL, szL_app] at g1 g7 ⊢; omega) | (with_reducible refine gt_ite (fun h => ?_) (fun h => ?_))
theorem hh_asgL {ts : List PT} {f i : Nat} (ih : HtOk ts f) {a : Int} {b : List Nd} (hg : (NT.asgL a b).good) (hi : i ≤ ts.length) (hf : ts.length * 64 + (NT.asgL a b).rank < f + 1 + i * 64) : GdT (fun l j => szL l + 64 * i + (NT.asgL a b).lo ≤ (NT.asgL a b).sz + 64 * j + (NT.asgL a b).ad) (gr ts (f + 1) (NT.asgL a b) i) := by
  obtain ⟨t, ht⟩ := last_ne hg
  simp only [gr, ht]
  repeat' first | (with_reducible refine gt_if (fun h => ?_) ?_) | ((with_reducible refine gt_wantB ?_); intro h) | ((with_reducible refine gt_wantK ?_ ?_); decide; intro h) | (with_reducible exact gt_er) | ((with_reducible refine gt_pk ?_); (simp only [NT.min, NT.sz, NT.lo, NT.ad, szN, szL, szL_app]; omega)) | ((with_reducible refine gt_ok ?_); (simp only [NT.min, NT.sz, NT.lo, NT.ad, szN, szL, szL_app]; omega)) | ((with_reducible refine ih.one ?_ ?_ ?_ ?_ ?_); (first | exact True.intro | simp [NT.good]); omega; (simp only [NT.rank] at hf ⊢; omega); rfl; intro t j g1 g3 g7; simp only [NT.min, NT.sz, NT.lo, NT.ad, szN, szL, szL_app] at g1 g7) | ((with_reducible refine ih.lst ?_ ?_ ?_ ?_); (first | exact True.intro | simp [NT.good]); omega; (simp only [NT.rank] at hf ⊢; omega); intro l j g1 g3 g7; simp only [NT.min, NT.sz, NT.lo, NT.ad, szN, szL, szL_app] at g1 g7) | ((with_reducible refine ih.nxt ?_ ?_ ?_ ?_); (first | exact True.intro | simp [NT.good]); omega; (simp only [NT.rank] at hf ⊢; omega); intro l j g1 g3 g7; simp only [NT.min, NT.sz, NT.lo, NT.ad, szN, szL, szL_app] at g1 g7 ⊢; omega) | (with_reducible refine gt_ite (fun h => ?_) (fun h => ?_))
theorem hh_blockL {ts : List PT} {f i : Nat} (ih : HtOk ts f) {a : List Nd} (hg : (NT.blockL a).good) (hi : i ≤ ts.length) (hf : ts.length * 64 + (NT.blockL a).rank < f + 1 + i * 64) : GdT (fun l j => szL l + 64 * i + (NT.blockL a).lo ≤ (NT.blockL a).sz + 64 * j + (NT.blockL a).ad) (gr ts (f + 1) (NT.blockL a) i) := by
  simp only [gr]
  repeat' first | (have h0 := kd_lt (by rw [h]; decide); clear h) | (have h0 := kd_lt (i := i) (ts := ts) (by omega); clear h) | (with_reducible refine gt_if (fun h => ?_) ?_) | ((with_reducible refine gt_wantB ?_); intro h) | ((with_reducible refine gt_wantK ?_ ?_); decide; intro h) | (with_reducible exact gt_er) | ((with_reducible refine gt_pk ?_); (simp only [NT.min, NT.sz, NT.lo, NT.ad, szN, szL, szL_app]; omega)) | ((with_reducible refine gt_ok ?_); (simp only [NT.min, NT.sz, NT.lo, NT.ad, szN, szL, szL_app]; omega)) | ((with_reducible refine ih.one ?_ ?_ ?_ ?_ ?_); (first | exact True.intro | simp [NT.good]); omega; (simp only [NT.rank] at hf ⊢; omega); rfl; intro t j g1 g3 g7; simp only [NT.min, NT.sz, NT.lo, NT.ad, szN, szL, szL_app] at g1 g7) | ((with_reducible refine ih.lst ?_ ?_ ?_ ?_); (first | exact True.intro | simp [NT.good]); omega; (simp only [NT.rank] at hf ⊢; omega); intro l j g1 g3 g7; simp only [NT.min, NT.sz, NT.lo, NT.ad, szN, szL, szL_app] at g1 g7) | ((with_reducible refine ih.nxt ?_ ?_ ?_ ?_); (first | exact True.intro | simp [NT.good]); omega; (simp only [NT.rank] at hf ⊢; omega); intro l j g1 g3 g7; simp only [NT.min, NT.sz, NT.lo, NT.ad, szN, szL, szL_app] at g1 g7 ⊢; omega) | (with_reducible refine gt_ite (fun h => ?_) (fun h => ?_))
theorem hh_ifs {ts : List PT} {f i : Nat} (ih : HtOk ts f) {a : Int} (hg : (NT.ifs a).good) (hi : i ≤ ts.length) (hf : ts.length * 64 + (NT.ifs a).rank < f + 1 + i * 64) : GdT (fun l j => szL l + 64 * i + (NT.ifs a).lo ≤ (NT.ifs a).sz + 64 * j + (NT.ifs a).ad) (gr ts (f + 1) (NT.ifs a) i) := by
  simp only [gr]
  repeat' first | (with_reducible refine gt_if (fun h => ?_) ?_) | ((with_reducible refine gt_wantB ?_); intro h) | ((with_reducible refine gt_wantK ?_ ?_); decide; intro h) | (with_reducible exact gt_er) | ((with_reducible refine gt_pk ?_); (simp only [NT.min, NT.sz, NT.lo, NT.ad, szN, szL, szL_app]; omega)) | ((with_reducible refine gt_ok ?_); (simp only [NT.min, NT.sz, NT.lo, NT.ad, szN, szL, szL_app]; omega)) | ((with_reducible refine ih.one ?_ ?_ ?_ ?_ ?_); (first | exact True.intro | simp [NT.good]); omega; (simp only [NT.rank] at hf ⊢; omega); rfl; intro t j g1 g3 g7; simp only [NT.min, NT.sz, NT.lo, NT.ad, szN, szL, szL_app] at g1 g7) | ((with_reducible refine ih.lst ?_ ?_ ?_ ?_); (first | exact True.intro | simp [NT.good]); omega; (simp only [NT.rank] at hf ⊢; omega); intro l j g1 g3 g7; simp only [NT.min, NT.sz, NT.lo, NT.ad, szN, szL, szL_app] at g1 g7) | ((with_reducible refine ih.nxt ?_ ?_ ?_ ?_); (first | exact True.intro | simp [NT.good]); omega; (simp only [NT.rank] at hf ⊢; omega); intro l j g1 g3 g7; simp only [NT.min, NT.sz, NT.lo, NT.ad, szN, szL, szL_app] at g1 g7 ⊢; omega) | (with_reducible refine gt_ite (fun h => ?_) (fun h => ?_))
theorem hh_tries {ts : List PT} {f i : Nat} (ih : HtOk ts f) {a : Int} (hg : (NT.tries a).good) (hi : i ≤ ts.length) (hf : ts.length * 64 + (NT.tries a).rank < f + 1 + i * 64) : GdT (fun l j => szL l + 64 * i + (NT.tries a).lo ≤ (NT.tries a).sz + 64 * j + (NT.tries a).ad) (gr ts (f + 1) (NT.tries a) i) := by
  simp only [gr]
  repeat' first | (with_reducible refine gt_if (fun h => ?_) ?_) | ((with_reducible refine gt_wantB ?_); intro h) | ((with_reducible refine gt_wantK ?_ ?_); decide; intro h) | (with_reducible exact gt_er) | ((with_reducible refine gt_pk ?_); (simp only [NT.min, NT.sz, NT.lo, NT.ad, szN, szL, szL_app]; omega)) | ((with_reducible refine gt_ok ?_); (simp only [NT.min, NT.sz, NT.lo, NT.ad, szN, szL, szL_app]; omega)) | ((with_reducible refine ih.one ?_ ?_ ?_ ?_ ?_); (first | exact True.intro | simp [NT.good]); omega; (simp only [NT.rank] at hf ⊢; omega); rfl; intro t j g1 g3 g7; simp only [NT.min, NT.sz, NT.lo, NT.ad, szN, szL, szL_app] at g1 g7) | ((with_reducible refine ih.lst ?_ ?_ ?_ ?_); (first | exact True.intro | simp [NT.good]); omega; (simp only [NT.rank] at hf ⊢; omega); intro l j g1 g3 g7; simp only [NT.min, NT.sz, NT.lo, NT.ad, szN, szL, szL_app] at g1 g7) | ((with_reducible refine ih.nxt ?_ ?_ ?_ ?_); (first | exact True.intro | simp [NT.good]); omega; (simp only [NT.rank] at hf ⊢; omega); intro l j g1 g3 g7; simp only [NT.min, NT.sz, NT.lo, NT.ad, szN, szL, szL_app] at g1 g7 ⊢; omega) | (with_reducible refine gt_ite (fun h => ?_) (fun h => ?_))
theorem hh_triesL {ts : List PT} {f i : Nat} (ih : HtOk ts f) {a : List Nd} (hg : (NT.triesL a).good) (hi : i ≤ ts.length) (hf : ts.length * 64 + (NT.triesL a).rank < f + 1 + i * 64) : GdT (fun l j => szL l + 64 * i + (NT.triesL a).lo ≤ (NT.triesL a).sz + 64 * j + (NT.triesL a).ad) (gr ts (f + 1) (NT.triesL a) i) := by
  simp only [gr]
  repeat' first | (with_reducible refine gt_if (fun h => ?_) ?_) | ((with_reducible refine gt_wantB ?_); intro h) | ((with_reducible refine gt_wantK ?_ ?_); decide; intro h) | (with_reducible exact gt_er) | ((with_reducible refine gt_pk ?_); (simp only [NT.min, NT.sz, NT.lo, NT.ad, szN, szL, szL_app]; omega)) | ((with_reducible refine gt_ok ?_); (simp only [NT.min, NT.sz, NT.lo, NT.ad, szN, szL, szL_app]; omega)) | ((with_reducible refine ih.one ?_ ?_ ?_ ?_ ?_); (first | exact True.intro | simp [NT.good]); omega; (simp only [NT.rank] at hf ⊢; omega); rfl; intro t j g1 g3 g7; simp only [NT.min, NT.sz, NT.lo, NT.ad, szN, szL, szL_app] at g1 g7) | ((with_reducible refine ih.lst ?_ ?_ ?_ ?_); (first | exact True.intro | simp [NT.good]); omega; (simp only [NT.rank] at hf ⊢; omega); intro l j g1 g3 g7; simp only [NT.min, NT.sz, NT.lo, NT.ad, szN, szL, szL_app] at g1 g7) | ((with_reducible refine ih.nxt ?_ ?_ ?_ ?_); (first | exact True.intro | simp [NT.good]); omega; (simp only [NT.rank] at hf ⊢; omega); intro l j g1 g3 g7; simp only [NT.min, NT.sz, NT.lo, NT.ad, szN, szL, szL_app] at g1 g7 ⊢; omega) | (with_reducible refine gt_ite (fun h => ?_) (fun h => ?_))
theorem hh_triesF {ts : List PT} {f i : Nat} (ih : HtOk ts f) {a : Int} {b : List Nd} (hg : (NT.triesF a b).good) (hi : i ≤ ts.length) (hf : ts.length * 64 + (NT.triesF a b).rank < f + 1 + i * 64) : GdT (fun l j => szL l + 64 * i + (NT.triesF a b).lo ≤ (NT.triesF a b).sz + 64 * j + (NT.triesF a b).ad) (gr ts (f + 1) (NT.triesF a b) i) := by
  simp only [gr]
  repeat' first | (with_reducible refine gt_if (fun h => ?_) ?_) | ((with_reducible refine gt_wantB ?_); intro h) | ((with_reducible refine gt_wantK ?_ ?_); decide; intro h) | (with_reducible exact gt_er) | ((with_reducible refine gt_pk ?_); (simp only [NT.min, NT.sz, NT.lo, NT.ad, szN, szL, szL_app]; omega)) | ((with_reducible refine gt_ok ?_); (simp only [NT.min, NT.sz, NT.lo, NT.ad, szN, szL, szL_app]; omega)) | ((with_reducible refine ih.one ?_ ?_ ?_ ?_ ?_); (first | exact True.intro | simp [NT.good]); omega; (simp only [NT.rank] at hf ⊢; omega); rfl; intro t j g1 g3 g7; simp only [NT.min, NT.sz, NT.lo, NT.ad, szN, szL, szL_app] at g1 g7) | ((with_reducible refine ih.lst ?_ ?_ ?_ ?_); (first | exact True.intro | simp [NT.good]); omega; (simp only [NT.rank] at hf ⊢; omega); intro l j g1 g3 g7; simp only [NT.min, NT.sz, NT.lo, NT.ad, szN, szL, szL_app] at g1 g7) | ((with_reducible refine ih.nxt ?_ ?_ ?_ ?_); (first | exact True.intro | simp [NT.good]); omega; (simp only [NT.rank] at hf ⊢; omega); intro l j g1 g3 g7; simp only [NT.min, NT.sz, NT.lo, NT.ad, szN, szL, szL_app] at g1 g7 ⊢; omega) | (with_reducible refine gt_ite (fun h => ?_) (fun h => ?_))
theorem hh_top {ts : List PT} {f i : Nat} (ih : HtOk ts f) {a : List Nd} (hg : (NT.top a).good) (hi : i ≤ ts.length) (hf : ts.length * 64 + (NT.top a).rank < f + 1 + i * 64) : GdT (fun l j => szL l + 64 * i + (NT.top a).lo ≤ (NT.top a).sz + 64 * j + (NT.top a).ad) (gr ts (f + 1) (NT.top a) i) := by
  simp only [gr]
  repeat' first | (have h0 := kd_lt (by rw [h]; decide); clear h) | (have h0 := kd_lt (i := i) (ts := ts) (by omega); clear h) | (with_reducible refine gt_if (fun h => ?_) ?_) | ((with_reducible refine gt_wantB ?_); intro h) | ((with_reducible refine gt_wantK ?_ ?_); decide; intro h) | (with_reducible exact gt_er) | ((with_reducible refine gt_pk ?_); (simp only [NT.min, NT.sz, NT.lo, NT.ad, szN, szL, szL_app]; omega)) | ((with_reducible refine gt_ok ?_); (simp only [NT.min, NT.sz, NT.lo, NT.ad, szN, szL, szL_app]; omega)) | ((with_reducible refine ih.one ?_ ?_ ?_ ?_ ?_); (first | exact True.intro | simp [NT.good]); omega; (simp only [NT.rank] at hf ⊢; omega); rfl; intro t j g1 g3 g7; simp only [NT.min, NT.sz, NT.lo, NT.ad, szN, szL, szL_app] at g1 g7) | ((with_reducible refine ih.lst ?_ ?_ ?_ ?_); (first | exact True.intro | simp [NT.good]); omega; (simp only [NT.rank] at hf ⊢; omega); intro l j g1 g3 g7; simp only [NT.min, NT.sz, NT.lo, NT.ad, szN, szL, szL_app] at g1 g7) | ((with_reducible refine ih.nxt ?_ ?_ ?_ ?_); (first | exact True.intro | simp [NT.good]); omega; (simp only [NT.rank] at hf ⊢; omega); intro l j g1 g3 g7; simp only [NT.min, NT.sz, NT.lo, NT.ad, szN, szL, szL_app] at g1 g7 ⊢; omega) | (with_reducible refine gt_ite (fun h => ?_) (fun h => ?_))
theorem htOk_succ {ts : List PT} {f : Nat} (ih : HtOk ts f) : HtOk ts (f + 1) := by
  intro a i hg hi hf
  cases a
  · exact hh_expr ih hg hi hf
  · exact hh_or ih hg hi hf
  · exact hh_and ih hg hi hf
  · exact hh_not ih hg hi hf
  · exact hh_compare ih hg hi hf
  · exact hh_arith ih hg hi hf
  · exact hh_term ih hg hi hf
  · exact hh_factor ih hg hi hf
  · exact hh_primary ih hg hi hf
  · exact hh_atom ih hg hi hf
  · exact hh_exprs ih hg hi hf
  · exact hh_one ih hg hi hf
  · exact hh_places ih hg hi hf
  · exact hh_simple ih hg hi hf
  · exact hh_plain ih hg hi hf
  · exact hh_value ih hg hi hf
  · exact hh_block ih hg hi hf
  · exact hh_stmt ih hg hi hf
  · exact hh_params ih hg hi hf
  · exact hh_row ih hg hi hf
  · exact hh_exprsL ih hg hi hf
  · exact hh_orL ih hg hi hf
  · exact hh_andL ih hg hi hf
  · exact hh_cmpL ih hg hi hf
  · exact hh_arithL ih hg hi hf
  · exact hh_termL ih hg hi hf
  · exact hh_primL ih hg hi hf
  · exact hh_index ih hg hi hf
  · exact hh_clauses ih hg hi hf
  · exact hh_list ih hg hi hf
  · exact hh_braces ih hg hi hf
  · exact hh_dictL ih hg hi hf
  · exact hh_placesL ih hg hi hf
  · exact hh_names ih hg hi hf
  · exact hh_maybe ih hg hi hf
  · exact hh_asgL ih hg hi hf
  · exact hh_blockL ih hg hi hf
  · exact hh_ifs ih hg hi hf
  · exact hh_tries ih hg hi hf
  · exact hh_triesL ih hg hi hf
  · exact hh_triesF ih hg hi hf
  · exact hh_top ih hg hi hf
theorem gr_ht {ts : List PT} : ∀ f, HtOk ts f
  | 0 => fun a i _ hi h => by omega
  | f + 1 => htOk_succ (gr_ht f)
end Can
end Go.Proofs.Ytnkfdkfmdeibfaa
end
section
namespace Go.Proofs.Ytnkfdkfmdeibfaa
namespace Can
open Go Go.RowKit
set_option linter.unusedSimpArgs false
set_option linter.unusedVariables false
set_option maxRecDepth 4000
attribute [local irreducible] TC isT nowT begT
theorem wr_inc' {i n : Nat} (h : i < n) (hn : n ≤ maxLen) : (IntKind.wrap .i64 ((i : Int) + 1)) = ((i + 1 : Nat) : Int) := by
  rw [maxLen_eq] at hn
  rw [w_i64 (by omega) (by omega)]; omega
section
variable {Z : TP} {X : Pan} {R : Value → Prop} {Q : AV → List SV → Prop}
theorem leaf_tc {k : Int} (h4 : 4 ≤ k) (h7 : k ≤ 7) (hQ : Q (rS (.int .i64 (leafK k : Nat))) []) : TC Z (tblG Try.prog LG GG) X 65 [rS (.int .i64 k)] none Q R := by
  refine tc_rG dt_ok (by rfl) (by kernel_rfl) ?_
  conv in (rF _ _).body => reduce
  conv in (rF _ _).res => reduce
  obtain rfl | rfl | rfl | rfl : k = 4 ∨ k = 5 ∨ k = 6 ∨ k = 7 := by omega
  all_goals
    conv => whnf
    exact hQ
theorem single_tc {k : Nat} {l : Int} {x : List UInt8} {o : Nat} {ks : List Nd} (hQ : Q (rS (.bool (singleN (.mk k l x o ks)))) []) : TC Z (tblG Try.prog LG GG) X 44 [ndA (.mk k l x o ks)] none Q R := by
  have e : singleN (.mk k l x o ks) = decide (k = 36 ∨ k = 45 ∨ k = 46) := rfl
  rw [e] at hQ
  refine tc_rG dt_ok (by rfl) (by kernel_rfl) ?_
  conv in (rF _ _).body => reduce
  conv in (rF _ _).res => reduce
  by_cases h1 : k = 36
  · subst h1
    conv => whnf
    exact hQ
  by_cases h2 : k = 45
  · subst h2
    conv => whnf
    exact hQ
  by_cases h3 : k = 46
  · subst h3
    conv => whnf
    exact hQ
  rw [decide_eq_false (by omega)] at hQ
  conv => whnf
  refine ifT_c (fun h => by exfalso; simp at h; omega) fun h => ?_
  conv => whnf
  refine ifT_c (fun h => by exfalso; simp at h; omega) fun h => ?_
  conv => whnf
  refine ifT_c (fun h => by exfalso; simp at h; omega) fun h => ?_
  conv => whnf
  exact hQ
theorem single_st {k : Nat} {l : Int} {x : List UInt8} {o : Nat} {ks : List Nd} {E : Nat → Prop} {P : List Nd → Nat → Prop} {A B : PR} (hG : Gd E P (if singleN (.mk k l x o ks) = true then A else B)) (h1 : Gd E P A → Q (rS (.bool true)) []) (h2 : Gd E P B → Q (rS (.bool false)) []) : TC Z (tblG Try.prog LG GG) X 44 [ndA (.mk k l x o ks)] none Q R := by
  refine single_tc ?_
  cases h : singleN (.mk k l x o ks) with
  | true => rw [if_pos h] at hG; exact h1 hG
  | false => rw [if_neg (by rw [h]; decide)] at hG; exact h2 hG
theorem placesN_drop {ks : List Nd} {i : Nat} {t : Nd} (h : ks[i]? = some t) : placesN (ks.drop i) = (placeN t && placesN (ks.drop (i + 1))) := by
  obtain ⟨hi, rfl⟩ := List.getElem?_eq_some_iff.1 h
  rw [List.drop_eq_getElem_cons hi]
  rfl
noncomputable def nsz : Nd → Nat := fun t => SizeOf.sizeOf t
theorem nsz_lt {k : Nat} {l : Int} {x : List UInt8} {o : Nat} {ks : List Nd} {t : Nd} (h : t ∈ ks) : nsz t < nsz (.mk k l x o ks) := by
  have h1 := List.sizeOf_lt_of_mem h
  unfold nsz
  rw [Nd.mk.sizeOf_spec]
  omega
theorem place_tc : ∀ (N : Nat) (k : Nat) (l : Int) (x : List UInt8) (o : Nat) (ks : List Nd), nsz (.mk k l x o ks) < N → ∀ (Q : AV → List SV → Prop) (R : Value → Prop), Q (rS (.bool (placeN (.mk k l x o ks)))) [] → TC Z (tblG Try.prog LG GG) X 51 [ndA (.mk k l x o ks)] none Q R := by
  intro N
  induction N with
  | zero => intro k l x o ks h; exact absurd h (Nat.not_lt_zero _)
  | succ N ih =>
  intro k l x o ks hN Q R hQ
  refine tc_rG dt_ok (by rfl) (by kernel_rfl) ?_
  conv in (rF _ _).body => reduce
  conv in (rF _ _).res => reduce
  by_cases hk : k = 52 ∨ k = 51
  · have e : placeN (.mk k l x o ks) = (placesN ks && !ks.isEmpty) := if_pos hk
    rw [e] at hQ
    rcases hk with rfl | rfl
    all_goals
      conv => whnf
      refine loop_1 3 (fun m a s => ∃ i : Nat, a = rS (.int .i64 (i : Nat)) ∧ s = ⟨0, [oN (nA _ l x o ks)]⟩ ∧ m + i = ks.length ∧ placesN ks = placesN (ks.drop i)) ks.length [] rfl ⟨0, rfl, rfl, rfl, rfl⟩ ?_
      rintro m a f s ⟨i, rfl, rfl, hm, hp⟩
      conv => whnf
      intro hmx
      conv => whnf
      refine ifT_c (fun h => ?_) fun h => ?_
      · have hi : i < ks.length := by simp [ndsS_len] at h; omega
        obtain ⟨t, ht⟩ : ∃ t, ks[i]? = some t := ⟨_, List.getElem?_eq_getElem hi⟩
        have hd := placesN_drop ht
        have hlt := nsz_lt (List.mem_of_getElem? ht) (k := 52) (l := l) (x := x) (o := o)
        have hlt2 := nsz_lt (List.mem_of_getElem? ht) (k := 51) (l := l) (x := x) (o := o)
        obtain ⟨k1, l1, x1, o1, ks1⟩ := t
        conv => whnf
        refine ⟨rfl, i, _, rfl, ndsS_get ht, ?_⟩
        conv => whnf
        refine ih k1 l1 x1 o1 ks1 (by omega) _ _ ?_
        conv => whnf
        cases hpl : placeN (.mk k1 l1 x1 o1 ks1) with
        | true =>
          rw [hpl, Bool.true_and] at hd
          conv => whnf
          rw [ndsS_len] at hmx
          exact ⟨m - 1, [], by omega, rfl, i + 1, congrArg (fun n => rS (.int .i64 n)) (wr_inc' hi hmx), rfl, by omega, hp.trans hd⟩
        | false =>
          rw [hp, hd, hpl] at hQ
          conv => whnf
          exact hQ
      · have hi : i = ks.length := by simp [ndsS_len] at h; omega
        subst hi
        have hp : placesN ks = true := by rw [hp, List.drop_length]; rfl
        rw [hp, Bool.true_and] at hQ
        conv => whnf
        intro hmx
        conv => whnf
        refine ifT_c (fun h => ?_) fun h => ?_
        · have : ks.isEmpty = false := by cases ks; simp [ndsS] at h; rfl
          rw [this] at hQ
          conv => whnf
          exact hQ
        · have : ks.isEmpty = true := by cases ks; rfl; simp [ndsS] at h
          rw [this] at hQ
          conv => whnf
          exact hQ
  · have e : placeN (.mk k l x o ks) = decide (k = 36 ∨ k = 45 ∨ k = 46) := if_neg hk
    have e' : singleN (.mk k l x o ks) = decide (k = 36 ∨ k = 45 ∨ k = 46) := rfl
    rw [e, ← e'] at hQ
    conv => whnf
    refine ifT_c (fun h => ?_) fun h => by exfalso; simp at h; omega
    conv => whnf
    refine ifT_c (fun h => ?_) fun h => by exfalso; simp at h; omega
    conv => whnf
    refine single_tc ?_
    conv => whnf
    cases hs : singleN (.mk k l x o ks) with
    | true =>
      rw [hs] at hQ
      conv => whnf
      exact hQ
    | false =>
      rw [hs] at hQ
      conv => whnf
      exact hQ
theorem place_st {k : Nat} {l : Int} {x : List UInt8} {o : Nat} {ks : List Nd} {E : Nat → Prop} {P : List Nd → Nat → Prop} {A B : PR} (hG : Gd E P (if placeN (.mk k l x o ks) = true then A else B)) (h1 : Gd E P A → Q (rS (.bool true)) []) (h2 : Gd E P B → Q (rS (.bool false)) []) : TC Z (tblG Try.prog LG GG) X 51 [ndA (.mk k l x o ks)] none Q R := by
  refine place_tc _ k l x o ks (Nat.lt_succ_self _) Q R ?_
  cases h : placeN (.mk k l x o ks) with
  | true => rw [if_pos h] at hG; exact h1 hG
  | false => rw [if_neg (by rw [h]; decide)] at hG; exact h2 hG
theorem max_int (a b : Nat) : (if true = true then (if ((b : Nat) : Int) > (a : Nat) then ((b : Nat) : Int) else (a : Nat)) else if ((b : Nat) : Int) < (a : Nat) then ((b : Nat) : Int) else (a : Nat)) = ((max a b : Nat) : Int) := by
  rw [if_pos rfl]
  split <;> omega
theorem height_tc : ∀ (N : Nat) (k : Nat) (l : Int) (x : List UInt8) (o : Nat) (ks : List Nd), nsz (.mk k l x o ks) < N → htL ks + 1 ≤ 9223372036854775807 → ∀ (Q : AV → List SV → Prop) (R : Value → Prop), Q (rS (.int .i64 (htL ks + 1 : Nat))) [] → TC Z (tblG Try.prog LG GG) X 18 [ndA (.mk k l x o ks)] none Q R := by
  intro N
  induction N with
  | zero => intro k l x o ks h; exact absurd h (Nat.not_lt_zero _)
  | succ N ih =>
  intro k l x o ks hN hB Q R hQ
  refine tc_rG dt_ok (by rfl) (by kernel_rfl) ?_
  conv in (rF _ _).body => reduce
  conv in (rF _ _).res => reduce
  conv => whnf
  refine loop_2 4 3 (fun m a b s => ∃ i h : Nat, a = rS (.int .i64 (i : Nat)) ∧ b = rS (.int .i64 (h : Nat)) ∧ s = ⟨0, [oN (nA k l x o ks)]⟩ ∧ m + i = ks.length ∧ max h (htL (ks.drop i)) = htL ks) ks.length [] rfl ⟨0, 0, rfl, rfl, rfl, rfl, Nat.zero_max _⟩ ?_
  rintro m a b f s ⟨i, h, rfl, rfl, rfl, hm, hp⟩
  conv => whnf
  intro hmx
  conv => whnf
  refine ifT_c (fun hc => ?_) fun hc => ?_
  · have hi : i < ks.length := by simp [ndsS_len] at hc; omega
    obtain ⟨t, ht⟩ : ∃ t, ks[i]? = some t := ⟨_, List.getElem?_eq_getElem hi⟩
    have hd := htL_drop ht
    have hlt := nsz_lt (List.mem_of_getElem? ht) (k := k) (l := l) (x := x) (o := o)
    have hht := htL_mem (List.mem_of_getElem? ht)
    obtain ⟨k1, l1, x1, o1, ks1⟩ := t
    have e1 : htN (.mk k1 l1 x1 o1 ks1) = htL ks1 + 1 := rfl
    conv => whnf
    refine ⟨rfl, i, _, rfl, ndsS_get ht, ?_⟩
    conv => whnf
    refine ih k1 l1 x1 o1 ks1 (by omega) (by omega) _ _ ?_
    conv => whnf
    rw [ndsS_len] at hmx
    refine ⟨m - 1, [], by omega, rfl, i + 1, max h (htL ks1 + 1), congrArg (fun n => rS (.int .i64 n)) (wr_inc' hi hmx), ?_, rfl, by omega, by rw [← hp, hd, e1, Nat.max_assoc]⟩
    exact congrArg (fun n => rS (.int .i64 n)) (max_int h (htL ks1 + 1))
  · have hi : i = ks.length := by simp [ndsS_len] at hc; omega
    subst hi
    have hp : h = htL ks := by rw [← hp, List.drop_length]; exact (Nat.max_zero _).symm
    subst hp
    conv => whnf
    exact q_eq (congrArg (fun n => rS (.int .i64 n)) (wr_inc' (Nat.lt_succ_self _) (by rw [maxLen_eq]; omega))) rfl hQ
end
end Can
end Go.Proofs.Ytnkfdkfmdeibfaa
end
section
namespace Go.Proofs.Ytnkfdkfmdeibfaa
namespace Can
open Go Go.RowKit
set_option linter.unusedSimpArgs false
set_option linter.unusedVariables false
set_option maxRecDepth 4000
attribute [local irreducible] TC isT nowT begT placeN
structure PAll (Z : TP) (X : Pan) (W : Int → Value) (ts : List PT) (sl : Sl) (g : Nat) : Prop where
  expr : PC Z X W ts sl g .expr 22 [.ptr 0 0] ans1
  or_ : PC Z X W ts sl g .or 36 [.ptr 0 0] ans1
  and_ : PC Z X W ts sl g .and 50 [.ptr 0 0] ans1
  not_ : PC Z X W ts sl g .not 64 [.ptr 0 0] ans1
  compare : PC Z X W ts sl g .compare 73 [.ptr 0 0] ans1
  arith : PC Z X W ts sl g .arith 79 [.ptr 0 0] ans1
  term : PC Z X W ts sl g .term 83 [.ptr 0 0] ans1
  factor : PC Z X W ts sl g .factor 87 [.ptr 0 0] ans1
  primary : PC Z X W ts sl g .primary 43 [.ptr 0 0] ans1
  atom : PC Z X W ts sl g .atom 52 [.ptr 0 0] ans1
  exprs : PC Z X W ts sl g .exprs 26 [.ptr 0 0] ans1
  one : PC Z X W ts sl g .one 39 [.ptr 0 0] ans1
  places : PC Z X W ts sl g .places 25 [.ptr 0 0] ans1
  simple : PC Z X W ts sl g .simple 31 [.ptr 0 0] ans1
  plain : PC Z X W ts sl g .plain 45 [.ptr 0 0] ans1
  value : PC Z X W ts sl g .value 54 [.ptr 0 0] ans1
  block : PC Z X W ts sl g .block 24 [.ptr 0 0] ans1
  stmt : PC Z X W ts sl g .stmt 17 [.ptr 0 0] ans1
  params : ∀ (cl : List UInt8) (ln : Int), cl ≠ [] → PC Z X W ts sl g (.params cl ln []) 28 [.ptr 0 0, rS (.int .i64 ln), rS (.string ⟨⟨cl⟩⟩)] ans1
  row : ∀ (cl : List UInt8), cl ≠ [] → PC Z X W ts sl g (.row cl []) 29 [.ptr 0 0, rS (.string ⟨⟨cl⟩⟩)] ansL
  index : ∀ (k : Nat) (l : Int) (x : List UInt8) (o : Nat) (ks : List Nd), PC Z X W ts sl g (.index (.mk k l x o ks)) 53 [.ptr 0 0, ndA (.mk k l x o ks)] ans1
  clauses : PC Z X W ts sl g (.clauses []) 74 [.ptr 0 0] ansL
  list : ∀ (ln : Int), PC Z X W ts sl g (.list ln) 66 [.ptr 0 0, rS (.int .i64 ln)] ans1
  braces : ∀ (ln : Int), PC Z X W ts sl g (.braces ln) 67 [.ptr 0 0, rS (.int .i64 ln)] ans1
  names : ∀ (k : Nat) (ln : Int), PC Z X W ts sl g (.names k ln []) 42 [.ptr 0 0, rS (.int .i64 (k : Nat)), rS (.int .i64 ln)] ans1
  maybe : ∀ (k : Nat) (ln : Int) (all : Bool), PC Z X W ts sl g (.maybe k ln all) 41 [.ptr 0 0, rS (.int .i64 (k : Nat)), rS (.int .i64 ln), rS (.bool all)] ans1
  ifs : ∀ (ln : Int), PC Z X W ts sl g (.ifs ln) 21 [.ptr 0 0, rS (.int .i64 ln)] ans1
  tries : ∀ (ln : Int), PC Z X W ts sl g (.tries ln) 30 [.ptr 0 0, rS (.int .i64 ln)] ans1
end Can
end Go.Proofs.Ytnkfdkfmdeibfaa
end
