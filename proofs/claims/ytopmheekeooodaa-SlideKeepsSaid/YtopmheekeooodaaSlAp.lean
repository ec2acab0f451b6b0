/- Apart: no two of the lists share memory: each is marked, grown, looked at. Rows with room: an append writes in place where there is room. -/
import Derived.Test.YtopmheekeooodaaSlF
namespace Go.Proofs.Ytopmheekeooodaa
namespace Can
open Go Go.RowKit
set_option linter.unusedSimpArgs false
set_option linter.unusedVariables false
set_option maxRecDepth 4000
def mkv (k : Nat) : Value := .int .u64 ((k : Int) + 1000)
theorem setc_len {cs us : List Value} {i : Nat} (h : i + us.length ≤ cs.length) : (setCells cs i us).length = cs.length := setCells_length h
theorem setc_rep {cs : List Value} {i r p : Nat} {v : Value} (h : i + r ≤ cs.length) : (setCells cs i (List.replicate r v))[p]? = if i ≤ p ∧ p < i + r then some v else cs[p]? := by
  unfold setCells
  rw [List.append_assoc, List.length_replicate]
  by_cases h1 : p < i
  · rw [List.getElem?_append_left (by simp; omega), List.getElem?_take_of_lt h1, if_neg (by omega)]
  · rw [List.getElem?_append_right (by simp; omega), List.length_take, Nat.min_eq_left (by omega)]
    by_cases h2 : p < i + r
    · rw [List.getElem?_append_left (by simp; omega), List.getElem?_replicate, if_pos (by omega), if_pos ⟨by omega, h2⟩]
    · rw [List.getElem?_append_right (by simp; omega), List.length_replicate, List.getElem?_drop, if_neg (by omega)]
      congr 1; omega
/-- Rows at x k, from o k on, with room for C k words; what of them is marked. -/
def AI (K : CH) (n : Nat) (P : Nat → Bool) (x o C : Nat → Nat) (M : Nat → Nat → Prop) : Prop :=
  ∀ k, k < n → P k = true → ∃ cs, K.ob (x k) = .cells cs 42 .ex ∧ o k + C k ≤ cs.length ∧ ∀ i, i < C k → M k i → cs[o k + i]? = some (mkv k)
theorem AI.mv {K K' : CH} {n : Nat} {P : Nat → Bool} {x o C : Nat → Nat} {M M' : Nat → Nat → Prop} (h : AI K n P x o C M) (hk : ∀ k, k < n → P k = true → K'.ob (x k) = K.ob (x k)) (hm : ∀ k i, k < n → i < C k → M' k i → M k i) : AI K' n P x o C M' := fun k hkn hP => by
  obtain ⟨cs, h1, h3, h4⟩ := h k hkn hP
  exact ⟨cs, (hk k hkn hP).trans h1, h3, fun i hi hm' => h4 i hi (hm k i hkn hi hm')⟩
theorem AI.set {K : CH} {n : Nat} {P : Nat → Bool} {x o C : Nat → Nat} {M : Nat → Nat → Prop} (h : AI K n P x o C M) (hd : ∀ k k', k < n → k' < n → P k = true → P k' = true → x k = x k' → k = k') {j i0 r : Nat} (hj : j < n) (hP : P j = true) (hi0 : i0 + r ≤ C j) {cs : List Value} {e : Nat} (hc : K.ob (x j) = .cells cs e .ex) :
    AI (K.set (x j) (.cells (setCells cs (o j + i0) (List.replicate r (mkv j))) e .ex)) n P x o C (fun k i => M k i ∨ (k = j ∧ i0 ≤ i ∧ i < i0 + r)) := fun k hkn hPk => by
  obtain ⟨cs1, h1, h3, h4⟩ := h k hkn hPk
  by_cases e1 : x k = x j
  · obtain rfl := hd k j hkn hj hPk hP e1
    rw [hc] at h1
    cases h1
    refine ⟨_, by rw [set_get, if_pos rfl], by rw [setc_len (by simp; omega)]; exact h3, fun i hi hm => ?_⟩
    rw [setc_rep (by omega)]
    split
    · rfl
    · rename_i hne
      rcases hm with hm | ⟨_, hm⟩
      · exact h4 i hi hm
      · exact absurd ⟨by omega, by omega⟩ hne
  · refine ⟨_, by rw [set_get, if_neg e1]; exact h1, h3, fun i hi hm => ?_⟩
    rcases hm with hm | ⟨rfl, _⟩
    · exact h4 i hi hm
    · exact absurd rfl e1
/-- The values of the rows. -/
def RVC (n : Nat) (P : Nat → Bool) (L x o C : Nat → Nat) (q : Nat → Option Addr) (c : Nat → Nat) : Prop :=
  ∀ k, k < n → if P k = true then q k = some ⟨x k, o k, none⟩ ∧ c k = C k ∧ L k ≤ C k else L k = 0 ∧ c k = 0 ∧ (q k = none ∨ q k = some ⟨0, 0, some 0⟩)
/-- The list of the rows. -/
def ApL (K : CH) (b n : Nat) (L : Nat → Nat) (q : Nat → Option Addr) (c : Nat → Nat) : Prop := ∃ oc e kd, K.ob b = .cells oc e kd ∧ e ≠ 42 ∧ oc.length = n ∧ ∀ k, k < n → oc[k]? = some (.slice (q k) (L k) (c k))
abbrev Pr := Option Addr × Nat × Nat
def slv (p : Pr) : Value := .slice p.1 p.2.1 p.2.2
def gE (p : Pr) : List Value := [.slice p.1 p.2.1 p.2.2]
theorem gE_ok : ∀ p, (gE p).length = 1 ∧ (gE p).all isCell = true := fun p => ⟨rfl, rfl⟩
theorem gE_map : ∀ gs : List Pr, gs.flatMap gE = gs.map slv
  | [] => rfl
  | a :: l => by rw [List.flatMap_cons, gE_map l]; rfl
/-- A slice of marks: in the row itself, or in a row of its own. -/
def Mk (K : CH) (N : Nat) (P : Nat → Bool) (x : Nat → Nat) (p : Pr) (k : Nat) : Prop :=
  ∃ y oo cs kd, p.1 = some ⟨y, oo, none⟩ ∧ y < K.nx ∧ K.ob y = .cells cs 42 kd ∧ ((P k = true ∧ y = x k) ∨ N ≤ y) ∧ ∀ i, i < p.2.1 → cs[oo + i]? = some (mkv k)
/-- A row that grows by marks: m of them. -/
def Rw (n : Nat) (P : Nat → Bool) (x o C : Nat → Nat) (q : Nat → Option Addr) (k : Nat) (K : CH) (N m : Nat) (M : Nat → Nat → Prop) (p : Pr) : Prop :=
  (P k = true ∧ p = (some ⟨x k, o k, none⟩, m, C k) ∧ m ≤ C k ∧ ∀ i, i < m → M k i) ∨
  (∃ y cs, p = (some ⟨y, 0, none⟩, m, m) ∧ N ≤ y ∧ y < K.nx ∧ K.ob y = .cells cs 42 .gr ∧ cs.length = m ∧ ∀ i, i < m → cs[i]? = some (mkv k)) ∨
  (P k = false ∧ m = 0 ∧ p = (q k, 0, 0) ∧ (q k = none ∨ q k = some ⟨0, 0, some 0⟩))
theorem Rw.mk {n : Nat} {P : Nat → Bool} {x o C : Nat → Nat} {q : Nat → Option Addr} {k : Nat} {K : CH} {N m N0 : Nat} {M : Nat → Nat → Prop} {p : Pr} (h : Rw n P x o C q k K N m M p) (hA : AI K n P x o C M) (hk : k < n) (hx : P k = true → x k < K.nx) (hN : N0 ≤ N) (hm : 0 < m) : Mk K N0 P x p k ∧ p.2.1 = m := by
  rcases h with ⟨hP, rfl, h2, h3⟩ | ⟨y, cs, rfl, h1, h2, h3, h4, h5⟩ | ⟨_, h1, _⟩
  · obtain ⟨cs, a1, a2, a3⟩ := hA k hk hP
    exact ⟨⟨_, _, _, _, rfl, hx hP, a1, .inl ⟨hP, rfl⟩, fun i hi => a3 i (Nat.lt_of_lt_of_le hi h2) (h3 i hi)⟩, rfl⟩
  · exact ⟨⟨_, _, _, _, rfl, h2, h3, .inr (Nat.le_trans hN h1), fun i hi => by rw [Nat.zero_add]; exact h5 i hi⟩, rfl⟩
  · omega
theorem app_rw {H : CH} {n : Nat} {P : Nat → Bool} {x o C : Nat → Nat} {q : Nat → Option Addr} {M : Nat → Nat → Prop} (hA : AI H n P x o C M) (hd : ∀ k k', k < n → k' < n → P k = true → P k' = true → x k = x k' → k = k') {k m r N : Nat} (hk : k < n) {p : Pr} (hR : Rw n P x o C q k H N m M p) (hN : N ≤ H.nx) (hx : ∀ k, k < n → P k = true → x k < N) (hr : 0 < r) (hb : (m + r) * 8 ≤ 140737488355328) :
    ∃ p' H' M', appV 42 1 8 (.slice p.1 p.2.1 p.2.2) (List.replicate r (mkv k)) r H = some (.slice p'.1 p'.2.1 p'.2.2, H') ∧ Rw n P x o C q k H' N (m + r) M' p' ∧ H.nx ≤ H'.nx ∧ AI H' n P x o C M' ∧ (∀ k i, M k i → M' k i) ∧ ∀ z, z < N → (P k = true → z ≠ x k) → H'.ob z = H.ob z := by
  have hall : (List.replicate r (mkv k)).all isCell = true := by simp [mkv, isCell]
  have hml : m + r ≤ maxLen := by rw [maxLen_eq]; omega
  have new : ∀ (cs : List Value) (K : CH), K.nx = H.nx → (∀ z, z < N → K.ob z = H.ob z) → cs.length = m → (∀ i, i < m → cs[i]? = some (mkv k)) →
      Rw n P x o C q k (K.new (.cells (cs ++ List.replicate r (mkv k)) 42 .gr)) N (m + r) M (some ⟨H.nx, 0, none⟩, m + r, m + r) ∧ H.nx ≤ (K.new (.cells (cs ++ List.replicate r (mkv k)) 42 .gr)).nx ∧ AI (K.new (.cells (cs ++ List.replicate r (mkv k)) 42 .gr)) n P x o C M ∧ ∀ z, z < N → (P k = true → z ≠ x k) → (K.new (.cells (cs ++ List.replicate r (mkv k)) 42 .gr)).ob z = H.ob z := by
    intro cs K hn ho hl hc
    have hz : ∀ z, z < N → (K.new (.cells (cs ++ List.replicate r (mkv k)) 42 .gr)).ob z = H.ob z := fun z hz => by
      rw [new_get, if_neg (by omega)]; exact ho z hz
    refine ⟨.inr (.inl ⟨H.nx, _, rfl, hN, by rw [new_nx]; omega, by rw [new_get, if_pos hn.symm], by simp [hl], fun i hi => ?_⟩), by rw [new_nx]; omega, hA.mv (fun k' h1 h2 => hz _ (hx k' h1 h2)) fun _ _ _ _ h => h, fun z hz' _ => hz z hz'⟩
    by_cases h : i < m
    · rw [List.getElem?_append_left (by omega)]; exact hc i h
    · rw [List.getElem?_append_right (by omega), List.getElem?_replicate, if_pos (by omega)]
  rcases hR with ⟨hP, rfl, h2, h3⟩ | ⟨y, cs, rfl, h1, h2, h3, h4, h5⟩ | ⟨hP, rfl, rfl, h3⟩
  · obtain ⟨cs, a1, a2, a3⟩ := hA k hk hP
    dsimp only
    by_cases hin : m + r ≤ C k
    · have hs := hA.set hd hk hP hin a1
      refine ⟨(some ⟨x k, o k, none⟩, m + r, C k), _, _, ?_, .inl ⟨hP, rfl, hin, fun i hi => ?_⟩, ?_, hs, fun _ _ h => .inl h, fun z hz hne => ?_⟩
      · rw [appV_r, a1, appR_c, if_neg (by omega), if_pos (by rw [decide_eq_true hin]; rfl), if_pos ⟨rfl, by omega, hall⟩, Nat.mul_one]
      · by_cases h : i < m
        · exact .inl (h3 i h)
        · exact .inr ⟨rfl, by omega, hi⟩
      · exact Nat.le_refl _
      · rw [set_get, if_neg (hne hP)]
    · have e1 : (Kd.ex.isEx && decide (m + r ≤ C k)) = false := by rw [decide_eq_false hin, Bool.and_false]
      have e2 : (Kd.ex.isEx && decide (C k < m + r)) = true := by rw [decide_eq_true (by omega)]; rfl
      obtain ⟨n1, n2, n3, n4⟩ := new ((cs.drop (o k)).take (m * 1)) H rfl (fun _ _ => rfl) (by simp; omega) fun i hi => by
        rw [List.getElem?_take_of_lt (by omega), List.getElem?_drop]; exact a3 i (by omega) (h3 i hi)
      refine ⟨_, _, M, ?_, n1, n2, n3, fun _ _ h => h, n4⟩
      rw [appV_r, a1, appR_c, if_neg (by omega), if_neg (by rw [e1]; exact Bool.false_ne_true)]
      by_cases e0 : o k = 0
      · rw [if_pos ⟨e0, rfl, rfl, by omega, hall, hb, hml⟩, e2, e0]; rfl
      · rw [if_neg (fun h => e0 h.1), if_pos ⟨rfl, by omega, rfl, by omega, hall, hb, hml⟩]
  · dsimp only
    obtain ⟨n1, n2, n3, n4⟩ := new cs (H.set y .dead) rfl (fun z hz => by rw [set_get, if_neg (by omega)]) h4 h5
    refine ⟨_, _, M, ?_, n1, n2, n3, fun _ _ h => h, n4⟩
    rw [appV_r, h3, appR_c, if_neg (by omega), if_neg (by exact Bool.false_ne_true), if_pos ⟨rfl, rfl, rfl, by omega, hall, hb, hml⟩, List.take_of_length_le (by omega)]
    rfl
  · dsimp only
    obtain ⟨n1, n2, n3, n4⟩ := new [] H rfl (fun _ _ => rfl) rfl fun i hi => absurd hi (Nat.not_lt_zero _)
    refine ⟨_, _, M, ?_, n1, n2, n3, fun _ _ h => h, n4⟩
    rcases h3 with h3 | h3
    · simp only [h3]; rw [appV_n, if_neg (by omega), if_pos ⟨hall, by simpa using hb, by simpa using hml⟩]; simp
    · simp only [h3]; rw [appV_v, if_neg (by omega), if_pos ⟨hall, by simpa using hb, by simpa using hml⟩]; simp
/-- What has grown is marked: two lists of each row. -/
def GrM (K : CH) (N : Nat) (P : Nat → Bool) (x : Nat → Nat) (gs : List Pr) : Prop := ∀ q, (h : q < gs.length) → Mk K N P x gs[q] (q / 2) ∧ gs[q].2.1 ≤ 9223372036854775807
theorem apart_wp {H : CH} {b n c : Nat} {P : Nat → Bool} {L x o C : Nat → Nat} {qv : Nat → Option Addr} {cv : Nat → Nat} (hL : ApL H b n L qv cv) (hR : RVC n P L x o C qv cv) (hA : AI H n P x o C (fun _ _ => False)) (hb : b < H.nx) (hx : ∀ k, k < n → P k = true → x k < H.nx ∧ x k ≠ b) (hd : ∀ k k', k < n → k' < n → P k = true → P k' = true → x k = x k' → k = k') (hn : n ≤ 2097152) (hL1 : ∀ k, k < n → L k ≤ 17592186044000) :
    WpF (tblG Try.prog LG GG) 12 [.slice (some ⟨b, 0, none⟩) n c] H fun v K => v = .bool true := by
  obtain ⟨oc, eo, ko, hob, hoe, hol, hor⟩ := hL
  refine wpF_rG (by rfl) (by kernel_rfl) ?_; (conv in (rF _ _).body => reduce); (conv in (rF _ _).res => reduce)
  repeat' (first | (simp (disch := first | omega | (decide +kernel) | (repeat first | assumption | exact HExt.refl _ | refine HExt.set ?_ (by first | omega | (simp only [new_nx, set_nx]; omega)) _ | refine HExt.new ?_ _)) only [↓RD, RU, accW_t, accW_f, isW, ↓putF_get, ↓putF_none, ↓evF_t, ↓evF_c, ↓evF_f, new_nx, set_nx, new_get, set_get, getD_zero, getD_succ, u_not, pop, lop, aop, wop, resL, resV, tupleV, akV, isVal, isCell, Value.cells, ρ0, ρ1, ρ2, ρ3, ρ4, ↓reduceIte, Nat.reduceEqDiff, Nat.reduceAdd, Int.reduceOfNat, Int.reduceNegSucc, reduceCtorEq, ρ5, ρ6, ρ7, ρ8, srcR_c, src_n, src_v, src_s, bnd, lenV, capV, ρ9, ρ10, ρ11, ρ12, ρ13, ρ14, ρ15, ρ16, ρ17, ρ18, ρ19, ρ20, ρ21, ρ22, ρ23, ρ24, Kd.isRo, ρ25, ρ26, bldV, Nat.reduceLeDiff, Int.reduceMul, Int.reduceAdd, Int.reduceSub, Int.reduceToNat, maxLen_eq, zeros_one, appS_some, appV_n, appV_v, appH_t, appH_f, Kd.isEx, ρ27, partV, CH.set_set, lkV, lkR, isKey, mupV, nxtV, ρ28, ρ29]) | (with_reducible first | refine condK_dec (fun _ => ?_) fun _ => ?_ | refine grd_dec (fun _ => ?_) fun _ => ?_ | refine egrd_dec (fun _ => ?_) fun _ => ?_))
  refine loop_w (fun m fr K => ∃ j : Nat, m = n - j ∧ j ≤ n ∧ fr 3 = .int .i64 (j : Int) ∧ K.nx = H.nx ∧ (∀ y, (∀ k, k < n → P k = true → y ≠ x k) → K.ob y = H.ob y) ∧ AI K n P x o C (fun k i => k < j ∧ i < L k)) (n := n) ⟨0, rfl, Nat.zero_le _, by (repeat' (first | (simp (disch := first | omega | (decide +kernel) | (repeat first | assumption | exact HExt.refl _ | refine HExt.set ?_ (by first | omega | (simp only [new_nx, set_nx]; omega)) _ | refine HExt.new ?_ _)) only [↓RD, RU, accW_t, accW_f, isW, ↓putF_get, ↓putF_none, ↓evF_t, ↓evF_c, ↓evF_f, new_nx, set_nx, new_get, set_get, getD_zero, getD_succ, u_not, pop, lop, aop, wop, resL, resV, tupleV, akV, isVal, isCell, Value.cells, ρ0, ρ1, ρ2, ρ3, ρ4, ↓reduceIte, Nat.reduceEqDiff, Nat.reduceAdd, Int.reduceOfNat, Int.reduceNegSucc, reduceCtorEq, ρ5, ρ6, ρ7, ρ8, srcR_c, src_n, src_v, src_s, bnd, lenV, capV, ρ9, ρ10, ρ11, ρ12, ρ13, ρ14, ρ15, ρ16, ρ17, ρ18, ρ19, ρ20, ρ21, ρ22, ρ23, ρ24, Kd.isRo, ρ25, ρ26, bldV, Nat.reduceLeDiff, Int.reduceMul, Int.reduceAdd, Int.reduceSub, Int.reduceToNat, maxLen_eq, zeros_one, appS_some, appV_n, appV_v, appH_t, appH_f, Kd.isEx, ρ27, partV, CH.set_set, lkV, lkR, isKey, mupV, nxtV, ρ28, ρ29]) | (with_reducible first | refine condK_dec (fun _ => ?_) fun _ => ?_ | refine grd_dec (fun _ => ?_) fun _ => ?_ | refine egrd_dec (fun _ => ?_) fun _ => ?_))); all_goals rfl, rfl, fun _ _ => rfl, hA.mv (fun _ _ _ => rfl) fun k i _ _ h => absurd h.1 (Nat.not_lt_zero _)⟩ ?_
  rintro m fr K ⟨j, rfl, hj, f3, hKn, hKo, hKA⟩ hag
  have hKb : K.ob b = .cells oc eo ko := (hKo b fun k hk hp => (hx k hk hp).2.symm).trans hob
  by_cases hjn : j < n
  case pos =>
    have g1 := hor j hjn
    have hLj := hL1 j hjn
    repeat' (first | (simp (disch := first | omega | (decide +kernel) | (repeat first | assumption | exact HExt.refl _ | refine HExt.set ?_ (by first | omega | (simp only [new_nx, set_nx]; omega)) _ | refine HExt.new ?_ _)) only [↓RD, RU, accW_t, accW_f, isW, ↓putF_get, ↓putF_none, ↓evF_t, ↓evF_c, ↓evF_f, new_nx, set_nx, new_get, set_get, getD_zero, getD_succ, u_not, pop, lop, aop, wop, resL, resV, tupleV, akV, isVal, isCell, Value.cells, ρ0, ρ1, ρ2, ρ3, ρ4, ↓reduceIte, Nat.reduceEqDiff, Nat.reduceAdd, Int.reduceOfNat, Int.reduceNegSucc, reduceCtorEq, ρ5, ρ6, ρ7, ρ8, srcR_c, src_n, src_v, src_s, bnd, lenV, capV, ρ9, ρ10, ρ11, ρ12, ρ13, ρ14, ρ15, ρ16, ρ17, ρ18, ρ19, ρ20, ρ21, ρ22, ρ23, ρ24, Kd.isRo, ρ25, ρ26, bldV, Nat.reduceLeDiff, Int.reduceMul, Int.reduceAdd, Int.reduceSub, Int.reduceToNat, maxLen_eq, zeros_one, appS_some, appV_n, appV_v, appH_t, appH_f, Kd.isEx, ρ27, partV, CH.set_set, lkV, lkR, isKey, mupV, nxtV, ρ28, ρ29, f3, hag, hKb, hol, g1]) | (with_reducible first | refine condK_dec (fun _ => ?_) fun _ => ?_ | refine grd_dec (fun _ => ?_) fun _ => ?_ | refine egrd_dec (fun _ => ?_) fun _ => ?_))
    refine loop_w (fun m fr K' => ∃ i : Nat, m = L j - i ∧ i ≤ L j ∧ fr 4 = .int .i64 (i : Int) ∧ K'.nx = H.nx ∧ (∀ y, (∀ k, k < n → P k = true → y ≠ x k) → K'.ob y = H.ob y) ∧ AI K' n P x o C (fun k i' => (k < j ∧ i' < L k) ∨ k = j ∧ i' < i)) (n := L j) ⟨0, rfl, Nat.zero_le _, by (repeat' (first | (simp (disch := first | omega | (decide +kernel) | (repeat first | assumption | exact HExt.refl _ | refine HExt.set ?_ (by first | omega | (simp only [new_nx, set_nx]; omega)) _ | refine HExt.new ?_ _)) only [↓RD, RU, accW_t, accW_f, isW, ↓putF_get, ↓putF_none, ↓evF_t, ↓evF_c, ↓evF_f, new_nx, set_nx, new_get, set_get, getD_zero, getD_succ, u_not, pop, lop, aop, wop, resL, resV, tupleV, akV, isVal, isCell, Value.cells, ρ0, ρ1, ρ2, ρ3, ρ4, ↓reduceIte, Nat.reduceEqDiff, Nat.reduceAdd, Int.reduceOfNat, Int.reduceNegSucc, reduceCtorEq, ρ5, ρ6, ρ7, ρ8, srcR_c, src_n, src_v, src_s, bnd, lenV, capV, ρ9, ρ10, ρ11, ρ12, ρ13, ρ14, ρ15, ρ16, ρ17, ρ18, ρ19, ρ20, ρ21, ρ22, ρ23, ρ24, Kd.isRo, ρ25, ρ26, bldV, Nat.reduceLeDiff, Int.reduceMul, Int.reduceAdd, Int.reduceSub, Int.reduceToNat, maxLen_eq, zeros_one, appS_some, appV_n, appV_v, appH_t, appH_f, Kd.isEx, ρ27, partV, CH.set_set, lkV, lkR, isKey, mupV, nxtV, ρ28, ρ29]) | (with_reducible first | refine condK_dec (fun _ => ?_) fun _ => ?_ | refine grd_dec (fun _ => ?_) fun _ => ?_ | refine egrd_dec (fun _ => ?_) fun _ => ?_))); all_goals rfl, hKn, hKo, hKA.mv (fun _ _ _ => rfl) fun k i _ _ h => by omega⟩ ?_
    rintro m fr2 K' ⟨i, rfl, hi, f4, hKn', hKo', hKA'⟩ hag2
    have hKb' : K'.ob b = .cells oc eo ko := (hKo' b fun k hk hp => (hx k hk hp).2.symm).trans hob
    by_cases hiW : i < L j
    case pos =>
      have hrv := hR j hjn
      have hPj : P j = true := by
        cases hP : P j with
        | true => rfl
        | false => rw [hP] at hrv; simp only [Bool.false_eq_true, if_false] at hrv; omega
      rw [if_pos hPj] at hrv
      obtain ⟨hrv1, hrv2, hrv3⟩ := hrv
      obtain ⟨cs, q1, q3, q4⟩ := hKA' j hjn hPj
      have hs := hKA'.set hd hjn hPj (i0 := i) (r := 1) (by omega) q1
      rw [hrv1, hrv2] at g1
      repeat' (first | (simp (disch := first | omega | (decide +kernel) | (repeat first | assumption | exact HExt.refl _ | refine HExt.set ?_ (by first | omega | (simp only [new_nx, set_nx]; omega)) _ | refine HExt.new ?_ _)) only [↓RD, RU, accW_t, accW_f, isW, ↓putF_get, ↓putF_none, ↓evF_t, ↓evF_c, ↓evF_f, new_nx, set_nx, new_get, set_get, getD_zero, getD_succ, u_not, pop, lop, aop, wop, resL, resV, tupleV, akV, isVal, isCell, Value.cells, ρ0, ρ1, ρ2, ρ3, ρ4, ↓reduceIte, Nat.reduceEqDiff, Nat.reduceAdd, Int.reduceOfNat, Int.reduceNegSucc, reduceCtorEq, ρ5, ρ6, ρ7, ρ8, srcR_c, src_n, src_v, src_s, bnd, lenV, capV, ρ9, ρ10, ρ11, ρ12, ρ13, ρ14, ρ15, ρ16, ρ17, ρ18, ρ19, ρ20, ρ21, ρ22, ρ23, ρ24, Kd.isRo, ρ25, ρ26, bldV, Nat.reduceLeDiff, Int.reduceMul, Int.reduceAdd, Int.reduceSub, Int.reduceToNat, maxLen_eq, zeros_one, appS_some, appV_n, appV_v, appH_t, appH_f, Kd.isEx, ρ27, partV, CH.set_set, lkV, lkR, isKey, mupV, nxtV, ρ28, ρ29, f3, f4, hag2, hag, hKb', hol, g1, q1]) | (with_reducible first | refine condK_dec (fun _ => ?_) fun _ => ?_ | refine grd_dec (fun _ => ?_) fun _ => ?_ | refine egrd_dec (fun _ => ?_) fun _ => ?_))
      refine ⟨_, by omega, i + 1, rfl, by omega, rfl, hKn', fun y hy => ?_, hs.mv (fun _ _ _ => rfl) fun k i' h1 h2 h3 => by omega⟩
      rw [if_neg (hy j hjn hPj)]
      exact hKo' y hy
    case neg =>
    repeat' (first | (simp (disch := first | omega | (decide +kernel) | (repeat first | assumption | exact HExt.refl _ | refine HExt.set ?_ (by first | omega | (simp only [new_nx, set_nx]; omega)) _ | refine HExt.new ?_ _)) only [↓RD, RU, accW_t, accW_f, isW, ↓putF_get, ↓putF_none, ↓evF_t, ↓evF_c, ↓evF_f, new_nx, set_nx, new_get, set_get, getD_zero, getD_succ, u_not, pop, lop, aop, wop, resL, resV, tupleV, akV, isVal, isCell, Value.cells, ρ0, ρ1, ρ2, ρ3, ρ4, ↓reduceIte, Nat.reduceEqDiff, Nat.reduceAdd, Int.reduceOfNat, Int.reduceNegSucc, reduceCtorEq, ρ5, ρ6, ρ7, ρ8, srcR_c, src_n, src_v, src_s, bnd, lenV, capV, ρ9, ρ10, ρ11, ρ12, ρ13, ρ14, ρ15, ρ16, ρ17, ρ18, ρ19, ρ20, ρ21, ρ22, ρ23, ρ24, Kd.isRo, ρ25, ρ26, bldV, Nat.reduceLeDiff, Int.reduceMul, Int.reduceAdd, Int.reduceSub, Int.reduceToNat, maxLen_eq, zeros_one, appS_some, appV_n, appV_v, appH_t, appH_f, Kd.isEx, ρ27, partV, CH.set_set, lkV, lkR, isKey, mupV, nxtV, ρ28, ρ29, f3, f4, hag2, hag, hKb', hol, g1]) | (with_reducible first | refine condK_dec (fun _ => ?_) fun _ => ?_ | refine grd_dec (fun _ => ?_) fun _ => ?_ | refine egrd_dec (fun _ => ?_) fun _ => ?_))
    refine ⟨_, by omega, j + 1, rfl, by omega, rfl, hKn', hKo', hKA'.mv (fun _ _ _ => rfl) fun k i' h1 h2 h3 => ?_⟩
    by_cases e : k = j
    · subst e; omega
    · omega
  case neg =>
  have hAF : AI K n P x o C (fun k i => i < L k) := hKA.mv (fun _ _ _ => rfl) fun k i h1 h2 h3 => ⟨by omega, h3⟩
  have hKx : ∀ k, k < n → P k = true → x k < K.nx := fun k hk hp => by rw [hKn]; exact (hx k hk hp).1
  have hbK : b < K.nx := by omega
  clear hKA
  repeat' (first | (simp (disch := first | omega | (decide +kernel) | (repeat first | assumption | exact HExt.refl _ | refine HExt.set ?_ (by first | omega | (simp only [new_nx, set_nx]; omega)) _ | refine HExt.new ?_ _)) only [↓RD, RU, accW_t, accW_f, isW, ↓putF_get, ↓putF_none, ↓evF_t, ↓evF_c, ↓evF_f, new_nx, set_nx, new_get, set_get, getD_zero, getD_succ, u_not, pop, lop, aop, wop, resL, resV, tupleV, akV, isVal, isCell, Value.cells, ρ0, ρ1, ρ2, ρ3, ρ4, ↓reduceIte, Nat.reduceEqDiff, Nat.reduceAdd, Int.reduceOfNat, Int.reduceNegSucc, reduceCtorEq, ρ5, ρ6, ρ7, ρ8, srcR_c, src_n, src_v, src_s, bnd, lenV, capV, ρ9, ρ10, ρ11, ρ12, ρ13, ρ14, ρ15, ρ16, ρ17, ρ18, ρ19, ρ20, ρ21, ρ22, ρ23, ρ24, Kd.isRo, ρ25, ρ26, bldV, Nat.reduceLeDiff, Int.reduceMul, Int.reduceAdd, Int.reduceSub, Int.reduceToNat, maxLen_eq, zeros_one, appS_some, appV_n, appV_v, appH_t, appH_f, Kd.isEx, ρ27, partV, CH.set_set, lkV, lkR, isKey, mupV, nxtV, ρ28, ρ29, f3, hag, hKb, hol]) | (with_reducible first | refine condK_dec (fun _ => ?_) fun _ => ?_ | refine grd_dec (fun _ => ?_) fun _ => ?_ | refine egrd_dec (fun _ => ?_) fun _ => ?_))
  refine loop_w (fun m fr K2 => ∃ j : Nat, m = n - j ∧ j ≤ n ∧ fr 6 = .int .i64 (j : Int) ∧ ∃ (v : Value) (gs : List Pr), fr 5 = v ∧ Grw K 22 1 gE K2 v gs ∧ gs.length = 2 * j ∧ GrM K2 K.nx P x gs ∧ K.nx ≤ K2.nx ∧ (∀ z, z < K.nx → (∀ k, k < n → P k = true → z ≠ x k) → K2.ob z = K.ob z) ∧ AI K2 n P x o C (fun k i => i < L k)) (n := n) ⟨0, rfl, Nat.zero_le _, by (repeat' (first | (simp (disch := first | omega | (decide +kernel) | (repeat first | assumption | exact HExt.refl _ | refine HExt.set ?_ (by first | omega | (simp only [new_nx, set_nx]; omega)) _ | refine HExt.new ?_ _)) only [↓RD, RU, accW_t, accW_f, isW, ↓putF_get, ↓putF_none, ↓evF_t, ↓evF_c, ↓evF_f, new_nx, set_nx, new_get, set_get, getD_zero, getD_succ, u_not, pop, lop, aop, wop, resL, resV, tupleV, akV, isVal, isCell, Value.cells, ρ0, ρ1, ρ2, ρ3, ρ4, ↓reduceIte, Nat.reduceEqDiff, Nat.reduceAdd, Int.reduceOfNat, Int.reduceNegSucc, reduceCtorEq, ρ5, ρ6, ρ7, ρ8, srcR_c, src_n, src_v, src_s, bnd, lenV, capV, ρ9, ρ10, ρ11, ρ12, ρ13, ρ14, ρ15, ρ16, ρ17, ρ18, ρ19, ρ20, ρ21, ρ22, ρ23, ρ24, Kd.isRo, ρ25, ρ26, bldV, Nat.reduceLeDiff, Int.reduceMul, Int.reduceAdd, Int.reduceSub, Int.reduceToNat, maxLen_eq, zeros_one, appS_some, appV_n, appV_v, appH_t, appH_f, Kd.isEx, ρ27, partV, CH.set_set, lkV, lkR, isKey, mupV, nxtV, ρ28, ρ29]) | (with_reducible first | refine condK_dec (fun _ => ?_) fun _ => ?_ | refine grd_dec (fun _ => ?_) fun _ => ?_ | refine egrd_dec (fun _ => ?_) fun _ => ?_))); all_goals rfl, _, [], by (repeat' (first | (simp (disch := first | omega | (decide +kernel) | (repeat first | assumption | exact HExt.refl _ | refine HExt.set ?_ (by first | omega | (simp only [new_nx, set_nx]; omega)) _ | refine HExt.new ?_ _)) only [↓RD, RU, accW_t, accW_f, isW, ↓putF_get, ↓putF_none, ↓evF_t, ↓evF_c, ↓evF_f, new_nx, set_nx, new_get, set_get, getD_zero, getD_succ, u_not, pop, lop, aop, wop, resL, resV, tupleV, akV, isVal, isCell, Value.cells, ρ0, ρ1, ρ2, ρ3, ρ4, ↓reduceIte, Nat.reduceEqDiff, Nat.reduceAdd, Int.reduceOfNat, Int.reduceNegSucc, reduceCtorEq, ρ5, ρ6, ρ7, ρ8, srcR_c, src_n, src_v, src_s, bnd, lenV, capV, ρ9, ρ10, ρ11, ρ12, ρ13, ρ14, ρ15, ρ16, ρ17, ρ18, ρ19, ρ20, ρ21, ρ22, ρ23, ρ24, Kd.isRo, ρ25, ρ26, bldV, Nat.reduceLeDiff, Int.reduceMul, Int.reduceAdd, Int.reduceSub, Int.reduceToNat, maxLen_eq, zeros_one, appS_some, appV_n, appV_v, appH_t, appH_f, Kd.isEx, ρ27, partV, CH.set_set, lkV, lkR, isKey, mupV, nxtV, ρ28, ρ29]) | (with_reducible first | refine condK_dec (fun _ => ?_) fun _ => ?_ | refine grd_dec (fun _ => ?_) fun _ => ?_ | refine egrd_dec (fun _ => ?_) fun _ => ?_))); all_goals rfl, Grw.nil, rfl, fun q hq => absurd hq (Nat.not_lt_zero _), Nat.le_refl _, fun _ _ _ => rfl, hAF⟩ ?_
  rintro m fr2 K2 ⟨j2, rfl, hj2, f6, v, gs, f5, hG, hgl, hM, hn2, hE2, hA2⟩ hag2
  have hKb2 : K2.ob b = .cells oc eo ko := (hE2 b hbK fun k hk hp => (hx k hk hp).2.symm).trans hKb
  by_cases hjn2 : j2 < n
  case pos =>
    have g1 := hor j2 hjn2
    repeat' (first | (simp (disch := first | omega | (decide +kernel) | (repeat first | assumption | exact HExt.refl _ | refine HExt.set ?_ (by first | omega | (simp only [new_nx, set_nx]; omega)) _ | refine HExt.new ?_ _)) only [↓RD, RU, accW_t, accW_f, isW, ↓putF_get, ↓putF_none, ↓evF_t, ↓evF_c, ↓evF_f, new_nx, set_nx, new_get, set_get, getD_zero, getD_succ, u_not, pop, lop, aop, wop, resL, resV, tupleV, akV, isVal, isCell, Value.cells, ρ0, ρ1, ρ2, ρ3, ρ4, ↓reduceIte, Nat.reduceEqDiff, Nat.reduceAdd, Int.reduceOfNat, Int.reduceNegSucc, reduceCtorEq, ρ5, ρ6, ρ7, ρ8, srcR_c, src_n, src_v, src_s, bnd, lenV, capV, ρ9, ρ10, ρ11, ρ12, ρ13, ρ14, ρ15, ρ16, ρ17, ρ18, ρ19, ρ20, ρ21, ρ22, ρ23, ρ24, Kd.isRo, ρ25, ρ26, bldV, Nat.reduceLeDiff, Int.reduceMul, Int.reduceAdd, Int.reduceSub, Int.reduceToNat, maxLen_eq, zeros_one, appS_some, appV_n, appV_v, appH_t, appH_f, Kd.isEx, ρ27, partV, CH.set_set, lkV, lkR, isKey, mupV, nxtV, ρ28, ρ29, f5, f6, hag2, hag, hKb2, hol, g1]) | (with_reducible first | refine condK_dec (fun _ => ?_) fun _ => ?_ | refine grd_dec (fun _ => ?_) fun _ => ?_ | refine egrd_dec (fun _ => ?_) fun _ => ?_))
    have hLj := hL1 j2 hjn2
    have hrv := hR j2 hjn2
    have hrw0 : ∀ (K' : CH) (N : Nat), Rw n P x o C qv j2 K' N (L j2) (fun k i => i < L k) (qv j2, L j2, cv j2) := fun K' N => by
      by_cases hP : P j2 = true
      · rw [if_pos hP] at hrv
        exact .inl ⟨hP, by rw [hrv.1, hrv.2.1], hrv.2.2, fun i hi => hi⟩
      · rw [if_neg hP] at hrv
        exact .inr (.inr ⟨by simpa using hP, hrv.1, by rw [hrv.1, hrv.2.1], hrv.2.2⟩)
    refine loop_w (fun m fr K3 => ∃ i : Nat, m = 6 - i ∧ i ≤ 6 ∧ fr 8 = .int .i64 (i : Int) ∧ K2.nx ≤ K3.nx ∧ ∃ p M, fr 7 = .slice p.1 p.2.1 p.2.2 ∧ Rw n P x o C qv j2 K3 K2.nx (L j2 + i) M p ∧ AI K3 n P x o C M ∧ (∀ k i, i < L k → M k i) ∧ ∀ z, z < K2.nx → (P j2 = true → z ≠ x j2) → K3.ob z = K2.ob z) (n := 6) ⟨0, rfl, Nat.zero_le _, by (repeat' (first | (simp (disch := first | omega | (decide +kernel) | (repeat first | assumption | exact HExt.refl _ | refine HExt.set ?_ (by first | omega | (simp only [new_nx, set_nx]; omega)) _ | refine HExt.new ?_ _)) only [↓RD, RU, accW_t, accW_f, isW, ↓putF_get, ↓putF_none, ↓evF_t, ↓evF_c, ↓evF_f, new_nx, set_nx, new_get, set_get, getD_zero, getD_succ, u_not, pop, lop, aop, wop, resL, resV, tupleV, akV, isVal, isCell, Value.cells, ρ0, ρ1, ρ2, ρ3, ρ4, ↓reduceIte, Nat.reduceEqDiff, Nat.reduceAdd, Int.reduceOfNat, Int.reduceNegSucc, reduceCtorEq, ρ5, ρ6, ρ7, ρ8, srcR_c, src_n, src_v, src_s, bnd, lenV, capV, ρ9, ρ10, ρ11, ρ12, ρ13, ρ14, ρ15, ρ16, ρ17, ρ18, ρ19, ρ20, ρ21, ρ22, ρ23, ρ24, Kd.isRo, ρ25, ρ26, bldV, Nat.reduceLeDiff, Int.reduceMul, Int.reduceAdd, Int.reduceSub, Int.reduceToNat, maxLen_eq, zeros_one, appS_some, appV_n, appV_v, appH_t, appH_f, Kd.isEx, ρ27, partV, CH.set_set, lkV, lkR, isKey, mupV, nxtV, ρ28, ρ29]) | (with_reducible first | refine condK_dec (fun _ => ?_) fun _ => ?_ | refine grd_dec (fun _ => ?_) fun _ => ?_ | refine egrd_dec (fun _ => ?_) fun _ => ?_))); all_goals rfl, Nat.le_refl _, (qv j2, L j2, cv j2), _, by (repeat' (first | (simp (disch := first | omega | (decide +kernel) | (repeat first | assumption | exact HExt.refl _ | refine HExt.set ?_ (by first | omega | (simp only [new_nx, set_nx]; omega)) _ | refine HExt.new ?_ _)) only [↓RD, RU, accW_t, accW_f, isW, ↓putF_get, ↓putF_none, ↓evF_t, ↓evF_c, ↓evF_f, new_nx, set_nx, new_get, set_get, getD_zero, getD_succ, u_not, pop, lop, aop, wop, resL, resV, tupleV, akV, isVal, isCell, Value.cells, ρ0, ρ1, ρ2, ρ3, ρ4, ↓reduceIte, Nat.reduceEqDiff, Nat.reduceAdd, Int.reduceOfNat, Int.reduceNegSucc, reduceCtorEq, ρ5, ρ6, ρ7, ρ8, srcR_c, src_n, src_v, src_s, bnd, lenV, capV, ρ9, ρ10, ρ11, ρ12, ρ13, ρ14, ρ15, ρ16, ρ17, ρ18, ρ19, ρ20, ρ21, ρ22, ρ23, ρ24, Kd.isRo, ρ25, ρ26, bldV, Nat.reduceLeDiff, Int.reduceMul, Int.reduceAdd, Int.reduceSub, Int.reduceToNat, maxLen_eq, zeros_one, appS_some, appV_n, appV_v, appH_t, appH_f, Kd.isEx, ρ27, partV, CH.set_set, lkV, lkR, isKey, mupV, nxtV, ρ28, ρ29]) | (with_reducible first | refine condK_dec (fun _ => ?_) fun _ => ?_ | refine grd_dec (fun _ => ?_) fun _ => ?_ | refine egrd_dec (fun _ => ?_) fun _ => ?_))); all_goals rfl, hrw0 _ _, hA2, fun _ _ h => h, fun _ _ _ => rfl⟩ ?_
    rintro m fr3 K3 ⟨i, rfl, hi, f8, hn3, p, M, f7, hRw, hA3, hM3, hE3⟩ hag3
    by_cases hi6 : i < 6
    case pos =>
      have hnn : (K3.new (.cells [.int .u64 ((j2 : Int) + 1000)] 42 .ex)).nx = K3.nx + 1 := rfl
      have hob' : ∀ z, z < K3.nx → (K3.new (.cells [.int .u64 ((j2 : Int) + 1000)] 42 .ex)).ob z = K3.ob z := fun z hz => by rw [new_get, if_neg (by omega)]
      have hA3' : AI (K3.new (.cells [.int .u64 ((j2 : Int) + 1000)] 42 .ex)) n P x o C M := hA3.mv (fun k hk hp => hob' _ (by have := hKx k hk hp; omega)) fun _ _ _ _ h => h
      have hRw' : Rw n P x o C qv j2 (K3.new (.cells [.int .u64 ((j2 : Int) + 1000)] 42 .ex)) K2.nx (L j2 + i) M p := by
        rcases hRw with h | ⟨y, cs, h0, h1, h2, h3, h4⟩ | h
        · exact .inl h
        · exact .inr (.inl ⟨y, cs, h0, h1, by omega, (hob' _ h2).trans h3, h4⟩)
        · exact .inr (.inr h)
      repeat' (first | (simp (disch := first | omega | (decide +kernel) | (repeat first | assumption | exact HExt.refl _ | refine HExt.set ?_ (by first | omega | (simp only [new_nx, set_nx]; omega)) _ | refine HExt.new ?_ _)) only [↓RD, RU, accW_t, accW_f, isW, ↓putF_get, ↓putF_none, ↓evF_t, ↓evF_c, ↓evF_f, new_nx, set_nx, new_get, set_get, getD_zero, getD_succ, u_not, pop, lop, aop, wop, resL, resV, tupleV, akV, isVal, isCell, Value.cells, ρ0, ρ1, ρ2, ρ3, ρ4, ↓reduceIte, Nat.reduceEqDiff, Nat.reduceAdd, Int.reduceOfNat, Int.reduceNegSucc, reduceCtorEq, ρ5, ρ6, ρ7, ρ8, srcR_c, src_n, src_v, src_s, bnd, lenV, capV, ρ9, ρ10, ρ11, ρ12, ρ13, ρ14, ρ15, ρ16, ρ17, ρ18, ρ19, ρ20, ρ21, ρ22, ρ23, ρ24, Kd.isRo, ρ25, ρ26, bldV, Nat.reduceLeDiff, Int.reduceMul, Int.reduceAdd, Int.reduceSub, Int.reduceToNat, maxLen_eq, zeros_one, appS_some, appV_n, appV_v, appH_t, appH_f, Kd.isEx, ρ27, partV, CH.set_set, lkV, lkR, isKey, mupV, nxtV, ρ28, ρ29, f5, f6, f7, f8, hag3, hag2, hag]) | (with_reducible first | refine condK_dec (fun _ => ?_) fun _ => ?_ | refine grd_dec (fun _ => ?_) fun _ => ?_ | refine egrd_dec (fun _ => ?_) fun _ => ?_))
      obtain ⟨p', H', M', a1, a2, a3, a4, a5, a6⟩ := app_rw (r := 1) hA3' hd hjn2 hRw' (by omega) (fun k hk hp => by have := hKx k hk hp; omega) (by omega) (by omega)
      have a1' : appV 42 1 8 (.slice p.1 p.2.1 p.2.2) [.int .u64 ((j2 : Int) + 1000)] 1 (K3.new (.cells [.int .u64 ((j2 : Int) + 1000)] 42 .ex)) = some (.slice p'.1 p'.2.1 p'.2.2, H') := a1
      rw [a1']
      repeat' (first | (simp (disch := first | omega | (decide +kernel) | (repeat first | assumption | exact HExt.refl _ | refine HExt.set ?_ (by first | omega | (simp only [new_nx, set_nx]; omega)) _ | refine HExt.new ?_ _)) only [↓RD, RU, accW_t, accW_f, isW, ↓putF_get, ↓putF_none, ↓evF_t, ↓evF_c, ↓evF_f, new_nx, set_nx, new_get, set_get, getD_zero, getD_succ, u_not, pop, lop, aop, wop, resL, resV, tupleV, akV, isVal, isCell, Value.cells, ρ0, ρ1, ρ2, ρ3, ρ4, ↓reduceIte, Nat.reduceEqDiff, Nat.reduceAdd, Int.reduceOfNat, Int.reduceNegSucc, reduceCtorEq, ρ5, ρ6, ρ7, ρ8, srcR_c, src_n, src_v, src_s, bnd, lenV, capV, ρ9, ρ10, ρ11, ρ12, ρ13, ρ14, ρ15, ρ16, ρ17, ρ18, ρ19, ρ20, ρ21, ρ22, ρ23, ρ24, Kd.isRo, ρ25, ρ26, bldV, Nat.reduceLeDiff, Int.reduceMul, Int.reduceAdd, Int.reduceSub, Int.reduceToNat, maxLen_eq, zeros_one, appS_some, appV_n, appV_v, appH_t, appH_f, Kd.isEx, ρ27, partV, CH.set_set, lkV, lkR, isKey, mupV, nxtV, ρ28, ρ29, f5, f6, f8, hag3, hag2, hag]) | (with_reducible first | refine condK_dec (fun _ => ?_) fun _ => ?_ | refine grd_dec (fun _ => ?_) fun _ => ?_ | refine egrd_dec (fun _ => ?_) fun _ => ?_))
      exact ⟨_, by omega, i + 1, rfl, by omega, rfl, by omega, p', M', rfl, a2, a4, fun k i h => a5 _ _ (hM3 k i h), fun z hz hne => by rw [a6 z hz hne, hob' z (by omega)]; exact hE3 z hz hne⟩
    case neg =>
    have hi6' : i = 6 := by omega
    subst hi6'
    repeat' (first | (simp (disch := first | omega | (decide +kernel) | (repeat first | assumption | exact HExt.refl _ | refine HExt.set ?_ (by first | omega | (simp only [new_nx, set_nx]; omega)) _ | refine HExt.new ?_ _)) only [↓RD, RU, accW_t, accW_f, isW, ↓putF_get, ↓putF_none, ↓evF_t, ↓evF_c, ↓evF_f, new_nx, set_nx, new_get, set_get, getD_zero, getD_succ, u_not, pop, lop, aop, wop, resL, resV, tupleV, akV, isVal, isCell, Value.cells, ρ0, ρ1, ρ2, ρ3, ρ4, ↓reduceIte, Nat.reduceEqDiff, Nat.reduceAdd, Int.reduceOfNat, Int.reduceNegSucc, reduceCtorEq, ρ5, ρ6, ρ7, ρ8, srcR_c, src_n, src_v, src_s, bnd, lenV, capV, ρ9, ρ10, ρ11, ρ12, ρ13, ρ14, ρ15, ρ16, ρ17, ρ18, ρ19, ρ20, ρ21, ρ22, ρ23, ρ24, Kd.isRo, ρ25, ρ26, bldV, Nat.reduceLeDiff, Int.reduceMul, Int.reduceAdd, Int.reduceSub, Int.reduceToNat, maxLen_eq, zeros_one, appS_some, appV_n, appV_v, appH_t, appH_f, Kd.isEx, ρ27, partV, CH.set_set, lkV, lkR, isKey, mupV, nxtV, ρ28, ρ29, f5, f6, f7, f8, hag3, hag2, hag]) | (with_reducible first | refine condK_dec (fun _ => ?_) fun _ => ?_ | refine grd_dec (fun _ => ?_) fun _ => ?_ | refine egrd_dec (fun _ => ?_) fun _ => ?_))
    refine loop_w (fun m fr K4 => ∃ i : Nat, m = 48 - i ∧ i ≤ 48 ∧ fr 10 = .int .i64 (i : Int) ∧ ∃ ms : List Value, K4.nx = K3.nx + 1 ∧ K4.ob K3.nx = .cells ms 42 .ex ∧ ms.length = 48 ∧ (∀ k, k < i → ms[k]? = some (mkv j2)) ∧ (∀ z, z < K3.nx → K4.ob z = K3.ob z)) (n := 48) ⟨0, rfl, Nat.zero_le _, by (repeat' (first | (simp (disch := first | omega | (decide +kernel) | (repeat first | assumption | exact HExt.refl _ | refine HExt.set ?_ (by first | omega | (simp only [new_nx, set_nx]; omega)) _ | refine HExt.new ?_ _)) only [↓RD, RU, accW_t, accW_f, isW, ↓putF_get, ↓putF_none, ↓evF_t, ↓evF_c, ↓evF_f, new_nx, set_nx, new_get, set_get, getD_zero, getD_succ, u_not, pop, lop, aop, wop, resL, resV, tupleV, akV, isVal, isCell, Value.cells, ρ0, ρ1, ρ2, ρ3, ρ4, ↓reduceIte, Nat.reduceEqDiff, Nat.reduceAdd, Int.reduceOfNat, Int.reduceNegSucc, reduceCtorEq, ρ5, ρ6, ρ7, ρ8, srcR_c, src_n, src_v, src_s, bnd, lenV, capV, ρ9, ρ10, ρ11, ρ12, ρ13, ρ14, ρ15, ρ16, ρ17, ρ18, ρ19, ρ20, ρ21, ρ22, ρ23, ρ24, Kd.isRo, ρ25, ρ26, bldV, Nat.reduceLeDiff, Int.reduceMul, Int.reduceAdd, Int.reduceSub, Int.reduceToNat, maxLen_eq, zeros_one, appS_some, appV_n, appV_v, appH_t, appH_f, Kd.isEx, ρ27, partV, CH.set_set, lkV, lkR, isKey, mupV, nxtV, ρ28, ρ29]) | (with_reducible first | refine condK_dec (fun _ => ?_) fun _ => ?_ | refine grd_dec (fun _ => ?_) fun _ => ?_ | refine egrd_dec (fun _ => ?_) fun _ => ?_))); all_goals rfl, _, rfl, by (repeat' (first | (simp (disch := first | omega | (decide +kernel) | (repeat first | assumption | exact HExt.refl _ | refine HExt.set ?_ (by first | omega | (simp only [new_nx, set_nx]; omega)) _ | refine HExt.new ?_ _)) only [↓RD, RU, accW_t, accW_f, isW, ↓putF_get, ↓putF_none, ↓evF_t, ↓evF_c, ↓evF_f, new_nx, set_nx, new_get, set_get, getD_zero, getD_succ, u_not, pop, lop, aop, wop, resL, resV, tupleV, akV, isVal, isCell, Value.cells, ρ0, ρ1, ρ2, ρ3, ρ4, ↓reduceIte, Nat.reduceEqDiff, Nat.reduceAdd, Int.reduceOfNat, Int.reduceNegSucc, reduceCtorEq, ρ5, ρ6, ρ7, ρ8, srcR_c, src_n, src_v, src_s, bnd, lenV, capV, ρ9, ρ10, ρ11, ρ12, ρ13, ρ14, ρ15, ρ16, ρ17, ρ18, ρ19, ρ20, ρ21, ρ22, ρ23, ρ24, Kd.isRo, ρ25, ρ26, bldV, Nat.reduceLeDiff, Int.reduceMul, Int.reduceAdd, Int.reduceSub, Int.reduceToNat, maxLen_eq, zeros_one, appS_some, appV_n, appV_v, appH_t, appH_f, Kd.isEx, ρ27, partV, CH.set_set, lkV, lkR, isKey, mupV, nxtV, ρ28, ρ29]) | (with_reducible first | refine condK_dec (fun _ => ?_) fun _ => ?_ | refine grd_dec (fun _ => ?_) fun _ => ?_ | refine egrd_dec (fun _ => ?_) fun _ => ?_))); all_goals rfl, by simp [zeros], fun k hk => absurd hk (Nat.not_lt_zero _), fun z hz => by rw [new_get, if_neg (by omega)]⟩ ?_
    rintro m fr4 K4 ⟨i, rfl, hi, f10, ms, hn4, hm4, hml, hmm, ho4⟩ hag4
    by_cases hi48 : i < 48
    case pos =>
      repeat' (first | (simp (disch := first | omega | (decide +kernel) | (repeat first | assumption | exact HExt.refl _ | refine HExt.set ?_ (by first | omega | (simp only [new_nx, set_nx]; omega)) _ | refine HExt.new ?_ _)) only [↓RD, RU, accW_t, accW_f, isW, ↓putF_get, ↓putF_none, ↓evF_t, ↓evF_c, ↓evF_f, new_nx, set_nx, new_get, set_get, getD_zero, getD_succ, u_not, pop, lop, aop, wop, resL, resV, tupleV, akV, isVal, isCell, Value.cells, ρ0, ρ1, ρ2, ρ3, ρ4, ↓reduceIte, Nat.reduceEqDiff, Nat.reduceAdd, Int.reduceOfNat, Int.reduceNegSucc, reduceCtorEq, ρ5, ρ6, ρ7, ρ8, srcR_c, src_n, src_v, src_s, bnd, lenV, capV, ρ9, ρ10, ρ11, ρ12, ρ13, ρ14, ρ15, ρ16, ρ17, ρ18, ρ19, ρ20, ρ21, ρ22, ρ23, ρ24, Kd.isRo, ρ25, ρ26, bldV, Nat.reduceLeDiff, Int.reduceMul, Int.reduceAdd, Int.reduceSub, Int.reduceToNat, maxLen_eq, zeros_one, appS_some, appV_n, appV_v, appH_t, appH_f, Kd.isEx, ρ27, partV, CH.set_set, lkV, lkR, isKey, mupV, nxtV, ρ28, ρ29, f5, f6, f7, f10, hag4, hag3, hag2, hag, hm4, hml]) | (with_reducible first | refine condK_dec (fun _ => ?_) fun _ => ?_ | refine grd_dec (fun _ => ?_) fun _ => ?_ | refine egrd_dec (fun _ => ?_) fun _ => ?_))
      refine ⟨_, by omega, i + 1, rfl, by omega, rfl, _, hn4, rfl, by rw [setc_len (by simp; omega)]; exact hml, fun k hk => ?_, fun z hz => by rw [if_neg (by omega)]; exact ho4 z hz⟩
      have := setc_rep (cs := ms) (i := i) (r := 1) (p := k) (v := mkv j2) (by omega)
      refine this.trans ?_
      split
      · rfl
      · exact hmm k (by omega)
    case neg =>
    have hi48' : i = 48 := by omega
    subst hi48'
    have hA4 : AI K4 n P x o C M := hA3.mv (fun k hk hp => ho4 _ (by have := hKx k hk hp; omega)) fun _ _ _ _ h => h
    have hKb4 : K4.ob b = .cells oc eo ko := by
      refine (ho4 b (by omega)).trans ((hE3 b (by omega) fun hp => (hx _ hjn2 hp).2.symm).trans hKb2)
    have hRg : Rw n P x o C qv j2 K4 K2.nx (L j2 + 6) M p := by
      rcases hRw with h | ⟨y, cs, h0, h1, h2, h3, h4⟩ | h
      · exact .inl h
      · exact .inr (.inl ⟨y, cs, h0, h1, by omega, (ho4 _ h2).trans h3, h4⟩)
      · exact .inr (.inr h)
    repeat' (first | (simp (disch := first | omega | (decide +kernel) | (repeat first | assumption | exact HExt.refl _ | refine HExt.set ?_ (by first | omega | (simp only [new_nx, set_nx]; omega)) _ | refine HExt.new ?_ _)) only [↓RD, RU, accW_t, accW_f, isW, ↓putF_get, ↓putF_none, ↓evF_t, ↓evF_c, ↓evF_f, new_nx, set_nx, new_get, set_get, getD_zero, getD_succ, u_not, pop, lop, aop, wop, resL, resV, tupleV, akV, isVal, isCell, Value.cells, ρ0, ρ1, ρ2, ρ3, ρ4, ↓reduceIte, Nat.reduceEqDiff, Nat.reduceAdd, Int.reduceOfNat, Int.reduceNegSucc, reduceCtorEq, ρ5, ρ6, ρ7, ρ8, srcR_c, src_n, src_v, src_s, bnd, lenV, capV, ρ9, ρ10, ρ11, ρ12, ρ13, ρ14, ρ15, ρ16, ρ17, ρ18, ρ19, ρ20, ρ21, ρ22, ρ23, ρ24, Kd.isRo, ρ25, ρ26, bldV, Nat.reduceLeDiff, Int.reduceMul, Int.reduceAdd, Int.reduceSub, Int.reduceToNat, maxLen_eq, zeros_one, appS_some, appV_n, appV_v, appH_t, appH_f, Kd.isEx, ρ27, partV, CH.set_set, lkV, lkR, isKey, mupV, nxtV, ρ28, ρ29, f5, f6, f7, f10, hag4, hag3, hag2, hag, hm4, hml, hKb4, hol, g1]) | (with_reducible first | refine condK_dec (fun _ => ?_) fun _ => ?_ | refine grd_dec (fun _ => ?_) fun _ => ?_ | refine egrd_dec (fun _ => ?_) fun _ => ?_))
    have hms : List.take 48 ms = List.replicate 48 (mkv j2) := by
      rw [List.take_of_length_le (by omega)]
      refine List.ext_getElem? fun k => ?_
      by_cases hk : k < 48
      · rw [hmm k hk, List.getElem?_replicate, if_pos hk]
      · rw [List.getElem?_eq_none (by omega), List.getElem?_eq_none (by simp; omega)]
    rw [hms]
    have hrw4 : Rw n P x o C qv j2 K4 K4.nx (L j2) M (qv j2, L j2, cv j2) := by
      rcases hrw0 K4 K4.nx with ⟨h1, h2, h3, h4⟩ | ⟨y, _, _, h1, h2, _⟩ | h
      · exact .inl ⟨h1, h2, h3, fun i hi => hM3 _ _ hi⟩
      · omega
      · exact .inr (.inr h)
    obtain ⟨p5, K5, M5, a1, a2, a3, a4, a5, a6⟩ := app_rw (r := 48) hA4 hd hjn2 hrw4 (Nat.le_refl _) (fun k hk hp => by have := hKx k hk hp; omega) (by omega) (by omega)
    have a1' : appV 42 1 8 (.slice (qv j2) (L j2) (cv j2)) (List.replicate 48 (mkv j2)) 48 K4 = some (.slice p5.1 p5.2.1 p5.2.2, K5) := a1
    rw [a1']
    -- what had grown first stays marked
    have hRg5 : Rw n P x o C qv j2 K5 K2.nx (L j2 + 6) M5 p := by
      rcases hRg with ⟨h1, h2, h3, h4⟩ | ⟨y, cs, h0, h1, h2, h3, h4⟩ | h
      · exact .inl ⟨h1, h2, h3, fun i hi => a5 _ _ (h4 i hi)⟩
      · refine .inr (.inl ⟨y, cs, h0, h1, by omega, (a6 y h2 fun hp => ?_).trans h3, h4⟩)
        have := hKx _ hjn2 hp; omega
      · exact .inr (.inr h)
    repeat' (first | (simp (disch := first | omega | (decide +kernel) | (repeat first | assumption | exact HExt.refl _ | refine HExt.set ?_ (by first | omega | (simp only [new_nx, set_nx]; omega)) _ | refine HExt.new ?_ _)) only [↓RD, RU, accW_t, accW_f, isW, ↓putF_get, ↓putF_none, ↓evF_t, ↓evF_c, ↓evF_f, new_nx, set_nx, new_get, set_get, getD_zero, getD_succ, u_not, pop, lop, aop, wop, resL, resV, tupleV, akV, isVal, isCell, Value.cells, ρ0, ρ1, ρ2, ρ3, ρ4, ↓reduceIte, Nat.reduceEqDiff, Nat.reduceAdd, Int.reduceOfNat, Int.reduceNegSucc, reduceCtorEq, ρ5, ρ6, ρ7, ρ8, srcR_c, src_n, src_v, src_s, bnd, lenV, capV, ρ9, ρ10, ρ11, ρ12, ρ13, ρ14, ρ15, ρ16, ρ17, ρ18, ρ19, ρ20, ρ21, ρ22, ρ23, ρ24, Kd.isRo, ρ25, ρ26, bldV, Nat.reduceLeDiff, Int.reduceMul, Int.reduceAdd, Int.reduceSub, Int.reduceToNat, maxLen_eq, zeros_one, appS_some, appV_n, appV_v, appH_t, appH_f, Kd.isEx, ρ27, partV, CH.set_set, lkV, lkR, isKey, mupV, nxtV, ρ28, ρ29, f5, f6, f7, f10, hag4, hag3, hag2, hag]) | (with_reducible first | refine condK_dec (fun _ => ?_) fun _ => ?_ | refine grd_dec (fun _ => ?_) fun _ => ?_ | refine egrd_dec (fun _ => ?_) fun _ => ?_))
    obtain ⟨K6, hK6⟩ : ∃ K6, K6 = (K5.new (.cells [.slice p.1 p.2.1 p.2.2, .slice p5.1 p5.2.1 p5.2.2] 22 .ex)) := ⟨_, rfl⟩
    have hn6 : K6.nx = K5.nx + 1 := by rw [hK6]; rfl
    have ho6 : ∀ z, z < K5.nx → K6.ob z = K5.ob z := fun z hz => by rw [hK6, new_get, if_neg (by omega)]
    have hn45 : K3.nx + 1 ≤ K5.nx := by omega
    -- from K2 to K6: all but the row
    have ho26 : ∀ z, z < K2.nx → (P j2 = true → z ≠ x j2) → K6.ob z = K2.ob z := fun z hz hne => by
      rw [ho6 z (by omega), a6 z (by omega) hne, ho4 z (by omega)]; exact hE3 z hz hne
    have hG6 : Grw (⟨K.nx, K6.ob⟩ : CH) 22 1 gE K6 v gs := by
      rcases hG with h | ⟨b', kd', h0, h1, h2, h3, h4⟩
      · exact .inl h
      · refine .inr ⟨b', kd', h0, h1, by omega, (ho26 b' h2 fun hp e => ?_).trans h3, h4⟩
        have := hKx _ hjn2 hp
        omega
    rw [← hK6]
    refine optW_app gE_ok (ys := [p, p5]) hG6 (⟨by show K.nx ≤ K6.nx; omega, fun _ _ => rfl⟩) (by simp only [hgl, List.length_cons, List.length_nil]; omega) (by simp only [hgl, List.length_cons, List.length_nil]; omega) rfl rfl fun v' K7 hG' hA' hn' ho' => ?_
    repeat' (first | (simp (disch := first | omega | (decide +kernel) | (repeat first | assumption | exact HExt.refl _ | refine HExt.set ?_ (by first | omega | (simp only [new_nx, set_nx]; omega)) _ | refine HExt.new ?_ _)) only [↓RD, RU, accW_t, accW_f, isW, ↓putF_get, ↓putF_none, ↓evF_t, ↓evF_c, ↓evF_f, new_nx, set_nx, new_get, set_get, getD_zero, getD_succ, u_not, pop, lop, aop, wop, resL, resV, tupleV, akV, isVal, isCell, Value.cells, ρ0, ρ1, ρ2, ρ3, ρ4, ↓reduceIte, Nat.reduceEqDiff, Nat.reduceAdd, Int.reduceOfNat, Int.reduceNegSucc, reduceCtorEq, ρ5, ρ6, ρ7, ρ8, srcR_c, src_n, src_v, src_s, bnd, lenV, capV, ρ9, ρ10, ρ11, ρ12, ρ13, ρ14, ρ15, ρ16, ρ17, ρ18, ρ19, ρ20, ρ21, ρ22, ρ23, ρ24, Kd.isRo, ρ25, ρ26, bldV, Nat.reduceLeDiff, Int.reduceMul, Int.reduceAdd, Int.reduceSub, Int.reduceToNat, maxLen_eq, zeros_one, appS_some, appV_n, appV_v, appH_t, appH_f, Kd.isEx, ρ27, partV, CH.set_set, lkV, lkR, isKey, mupV, nxtV, ρ28, ρ29, f6, hag4, hag3, hag2, hag]) | (with_reducible first | refine condK_dec (fun _ => ?_) fun _ => ?_ | refine grd_dec (fun _ => ?_) fun _ => ?_ | refine egrd_dec (fun _ => ?_) fun _ => ?_))
    have hst : ∀ z cs kd, z < K6.nx → K6.ob z = .cells cs 42 kd → K7.ob z = .cells cs 42 kd := fun z cs kd hz hc => by
      rw [ho' z hz fun o' n' c' hv => ?_]; exact hc
      rcases hG6 with ⟨_, h⟩ | ⟨b', kd', h0, _, _, h3, _⟩
      · rw [h] at hv; cases hv
      · rw [h0] at hv; cases hv
        rw [h3] at hc
        simp at hc
    have hmk6 : ∀ p' k, Mk K5 K.nx P x p' k → Mk K7 K.nx P x p' k := fun p' k ⟨y, oo, cs, kd, m1, m2, m3, m4, m5⟩ => ⟨y, oo, cs, kd, m1, by omega, hst _ _ _ (by omega) ((ho6 y m2).trans m3), m4, m5⟩
    have hl1 := hRg5.mk a4 hjn2 (fun hp => by have := hKx _ hjn2 hp; omega) (show K.nx ≤ K2.nx from hn2) (by omega)
    have hl2 := a2.mk a4 hjn2 (fun hp => by have := hKx _ hjn2 hp; omega) (show K.nx ≤ K4.nx by omega) (by omega)
    have hgk : GrM K7 K.nx P x (gs ++ [p, p5]) := fun q hq => by
      have hq' : q < 2 * j2 + 2 := by simpa [hgl] using hq
      by_cases hq1 : q < gs.length
      · obtain ⟨⟨y, oo, cs, kd, m1, m2, m3, m4, m5⟩, m6⟩ := hM q hq1
        have hge : (gs ++ [p, p5])[q] = gs[q] := List.getElem_append_left hq1
        rw [hge]
        refine ⟨⟨y, oo, cs, kd, m1, by omega, hst _ _ _ (by omega) ((ho26 y m2 fun hp e => ?_).trans m3), m4, m5⟩, m6⟩
        rcases m4 with ⟨g1, g2⟩ | g
        · have := hd (q / 2) j2 (by omega) hjn2 g1 hp (g2.symm.trans e)
          omega
        · have := hKx _ hjn2 hp
          omega
      · by_cases hq2 : q = 2 * j2
        · have hge : (gs ++ [p, p5])[q] = p := by
            rw [List.getElem_append_right (by omega)]
            simp [hq2, hgl]
          rw [hge, show q / 2 = j2 by omega]
          exact ⟨hmk6 _ _ hl1.1, by rw [hl1.2]; omega⟩
        · have hge : (gs ++ [p, p5])[q] = p5 := by
            rw [List.getElem_append_right (by omega)]
            simp [show q - gs.length = 1 by omega]
          rw [hge, show q / 2 = j2 by omega]
          exact ⟨hmk6 _ _ hl2.1, by rw [hl2.2]; omega⟩
    refine ⟨_, by omega, j2 + 1, rfl, by omega, rfl, _, _, rfl, hG'.low (Nat.le_refl _), by simp [hgl]; omega, hgk, by omega, fun z hz hne => ?_, ?_⟩
    · have h1 : K6.ob z = K.ob z := (ho26 z (by omega) fun hp => hne _ hjn2 hp).trans (hE2 z hz hne)
      rw [ho' z (by omega) fun o' n' c' hv => ?_]; exact h1
      rcases hG6 with ⟨_, h⟩ | ⟨b', kd', h0, g1, _⟩
      · rw [h] at hv; cases hv
      · rw [h0] at hv; cases hv
        have g1' : K.nx ≤ z := g1
        omega
    · intro k hk hp
      obtain ⟨cs, c1, c2, c3⟩ := a4 k hk hp
      have := hKx k hk hp
      exact ⟨cs, hst _ _ _ (by omega) ((ho6 _ (by omega)).trans c1), c2, fun i hi h => c3 i hi (a5 _ _ (hM3 _ _ h))⟩
  case neg =>
  have hgl2 : gs.length = 2 * n := by rw [hgl]; omega
  obtain ⟨gb, gc, rfl, hgb⟩ : ∃ gb gc, v = .slice gb gs.length gc ∧ (0 < gs.length → ∃ b' kd, gb = some ⟨b', 0, none⟩ ∧ K2.ob b' = .cells (gs.flatMap gE) 22 kd) := by
    rcases hG with ⟨rfl, rfl⟩ | ⟨b', kd', rfl, _, _, g4, _⟩
    · exact ⟨_, _, rfl, fun h => absurd h (Nat.lt_irrefl _)⟩
    · exact ⟨_, _, rfl, fun _ => ⟨b', kd', rfl, g4⟩⟩
  have hat : ∀ q, (h : q < gs.length) → (gs.flatMap gE)[q]? = some (.slice gs[q].1 gs[q].2.1 gs[q].2.2) := fun q h => by
    rw [gE_map, List.getElem?_map, List.getElem?_eq_getElem h]; rfl
  repeat' (first | (simp (disch := first | omega | (decide +kernel) | (repeat first | assumption | exact HExt.refl _ | refine HExt.set ?_ (by first | omega | (simp only [new_nx, set_nx]; omega)) _ | refine HExt.new ?_ _)) only [↓RD, RU, accW_t, accW_f, isW, ↓putF_get, ↓putF_none, ↓evF_t, ↓evF_c, ↓evF_f, new_nx, set_nx, new_get, set_get, getD_zero, getD_succ, u_not, pop, lop, aop, wop, resL, resV, tupleV, akV, isVal, isCell, Value.cells, ρ0, ρ1, ρ2, ρ3, ρ4, ↓reduceIte, Nat.reduceEqDiff, Nat.reduceAdd, Int.reduceOfNat, Int.reduceNegSucc, reduceCtorEq, ρ5, ρ6, ρ7, ρ8, srcR_c, src_n, src_v, src_s, bnd, lenV, capV, ρ9, ρ10, ρ11, ρ12, ρ13, ρ14, ρ15, ρ16, ρ17, ρ18, ρ19, ρ20, ρ21, ρ22, ρ23, ρ24, Kd.isRo, ρ25, ρ26, bldV, Nat.reduceLeDiff, Int.reduceMul, Int.reduceAdd, Int.reduceSub, Int.reduceToNat, maxLen_eq, zeros_one, appS_some, appV_n, appV_v, appH_t, appH_f, Kd.isEx, ρ27, partV, CH.set_set, lkV, lkR, isKey, mupV, nxtV, ρ28, ρ29, f5, f6, hag2, hag, hKb2, hol]) | (with_reducible first | refine condK_dec (fun _ => ?_) fun _ => ?_ | refine grd_dec (fun _ => ?_) fun _ => ?_ | refine egrd_dec (fun _ => ?_) fun _ => ?_))
  refine loop_w (fun m fr K3 => ∃ q : Nat, m = gs.length - q ∧ q ≤ gs.length ∧ fr 11 = .int .i64 (q : Int) ∧ K3 = K2) (n := gs.length) ⟨0, rfl, Nat.zero_le _, by (repeat' (first | (simp (disch := first | omega | (decide +kernel) | (repeat first | assumption | exact HExt.refl _ | refine HExt.set ?_ (by first | omega | (simp only [new_nx, set_nx]; omega)) _ | refine HExt.new ?_ _)) only [↓RD, RU, accW_t, accW_f, isW, ↓putF_get, ↓putF_none, ↓evF_t, ↓evF_c, ↓evF_f, new_nx, set_nx, new_get, set_get, getD_zero, getD_succ, u_not, pop, lop, aop, wop, resL, resV, tupleV, akV, isVal, isCell, Value.cells, ρ0, ρ1, ρ2, ρ3, ρ4, ↓reduceIte, Nat.reduceEqDiff, Nat.reduceAdd, Int.reduceOfNat, Int.reduceNegSucc, reduceCtorEq, ρ5, ρ6, ρ7, ρ8, srcR_c, src_n, src_v, src_s, bnd, lenV, capV, ρ9, ρ10, ρ11, ρ12, ρ13, ρ14, ρ15, ρ16, ρ17, ρ18, ρ19, ρ20, ρ21, ρ22, ρ23, ρ24, Kd.isRo, ρ25, ρ26, bldV, Nat.reduceLeDiff, Int.reduceMul, Int.reduceAdd, Int.reduceSub, Int.reduceToNat, maxLen_eq, zeros_one, appS_some, appV_n, appV_v, appH_t, appH_f, Kd.isEx, ρ27, partV, CH.set_set, lkV, lkR, isKey, mupV, nxtV, ρ28, ρ29]) | (with_reducible first | refine condK_dec (fun _ => ?_) fun _ => ?_ | refine grd_dec (fun _ => ?_) fun _ => ?_ | refine egrd_dec (fun _ => ?_) fun _ => ?_))); all_goals rfl, rfl⟩ ?_
  rintro m fr3 K3 ⟨q, rfl, hq, f11, rfl⟩ hag3
  by_cases hql : q < gs.length
  case pos =>
    obtain ⟨b', kd', rfl, hb'⟩ := hgb (by omega)
    have hgq := hat q hql
    obtain ⟨⟨yq, oq, cq, kq, m1, m2, m3, m4, m5⟩, m6⟩ := hM q hql
    obtain ⟨lq, hlq⟩ : ∃ lq, gs[q].2.1 = lq := ⟨_, rfl⟩
    obtain ⟨cc, hcc⟩ : ∃ cc, gs[q].2.2 = cc := ⟨_, rfl⟩
    rw [m1, hlq, hcc] at hgq
    rw [hlq] at m5 m6
    repeat' (first | (simp (disch := first | omega | (decide +kernel) | (repeat first | assumption | exact HExt.refl _ | refine HExt.set ?_ (by first | omega | (simp only [new_nx, set_nx]; omega)) _ | refine HExt.new ?_ _)) only [↓RD, RU, accW_t, accW_f, isW, ↓putF_get, ↓putF_none, ↓evF_t, ↓evF_c, ↓evF_f, new_nx, set_nx, new_get, set_get, getD_zero, getD_succ, u_not, pop, lop, aop, wop, resL, resV, tupleV, akV, isVal, isCell, Value.cells, ρ0, ρ1, ρ2, ρ3, ρ4, ↓reduceIte, Nat.reduceEqDiff, Nat.reduceAdd, Int.reduceOfNat, Int.reduceNegSucc, reduceCtorEq, ρ5, ρ6, ρ7, ρ8, srcR_c, src_n, src_v, src_s, bnd, lenV, capV, ρ9, ρ10, ρ11, ρ12, ρ13, ρ14, ρ15, ρ16, ρ17, ρ18, ρ19, ρ20, ρ21, ρ22, ρ23, ρ24, Kd.isRo, ρ25, ρ26, bldV, Nat.reduceLeDiff, Int.reduceMul, Int.reduceAdd, Int.reduceSub, Int.reduceToNat, maxLen_eq, zeros_one, appS_some, appV_n, appV_v, appH_t, appH_f, Kd.isEx, ρ27, partV, CH.set_set, lkV, lkR, isKey, mupV, nxtV, ρ28, ρ29, f5, f11, hag3, hag2, hag, hb', hgq]) | (with_reducible first | refine condK_dec (fun _ => ?_) fun _ => ?_ | refine grd_dec (fun _ => ?_) fun _ => ?_ | refine egrd_dec (fun _ => ?_) fun _ => ?_))
    refine loop_w (fun m fr K4 => ∃ i : Nat, m = lq - i ∧ i ≤ lq ∧ fr 12 = .int .i64 (i : Int) ∧ K4 = K3) (n := lq) ⟨0, rfl, Nat.zero_le _, by (repeat' (first | (simp (disch := first | omega | (decide +kernel) | (repeat first | assumption | exact HExt.refl _ | refine HExt.set ?_ (by first | omega | (simp only [new_nx, set_nx]; omega)) _ | refine HExt.new ?_ _)) only [↓RD, RU, accW_t, accW_f, isW, ↓putF_get, ↓putF_none, ↓evF_t, ↓evF_c, ↓evF_f, new_nx, set_nx, new_get, set_get, getD_zero, getD_succ, u_not, pop, lop, aop, wop, resL, resV, tupleV, akV, isVal, isCell, Value.cells, ρ0, ρ1, ρ2, ρ3, ρ4, ↓reduceIte, Nat.reduceEqDiff, Nat.reduceAdd, Int.reduceOfNat, Int.reduceNegSucc, reduceCtorEq, ρ5, ρ6, ρ7, ρ8, srcR_c, src_n, src_v, src_s, bnd, lenV, capV, ρ9, ρ10, ρ11, ρ12, ρ13, ρ14, ρ15, ρ16, ρ17, ρ18, ρ19, ρ20, ρ21, ρ22, ρ23, ρ24, Kd.isRo, ρ25, ρ26, bldV, Nat.reduceLeDiff, Int.reduceMul, Int.reduceAdd, Int.reduceSub, Int.reduceToNat, maxLen_eq, zeros_one, appS_some, appV_n, appV_v, appH_t, appH_f, Kd.isEx, ρ27, partV, CH.set_set, lkV, lkR, isKey, mupV, nxtV, ρ28, ρ29]) | (with_reducible first | refine condK_dec (fun _ => ?_) fun _ => ?_ | refine grd_dec (fun _ => ?_) fun _ => ?_ | refine egrd_dec (fun _ => ?_) fun _ => ?_))); all_goals rfl, rfl⟩ ?_
    rintro m fr4 K4 ⟨i, rfl, hi, f12, rfl⟩ hag4
    by_cases hil : i < lq
    case pos =>
      have hm := m5 i hil
      unfold mkv at hm
      repeat' (first | (simp (disch := first | omega | (decide +kernel) | (repeat first | assumption | exact HExt.refl _ | refine HExt.set ?_ (by first | omega | (simp only [new_nx, set_nx]; omega)) _ | refine HExt.new ?_ _)) only [↓RD, RU, accW_t, accW_f, isW, ↓putF_get, ↓putF_none, ↓evF_t, ↓evF_c, ↓evF_f, new_nx, set_nx, new_get, set_get, getD_zero, getD_succ, u_not, pop, lop, aop, wop, resL, resV, tupleV, akV, isVal, isCell, Value.cells, ρ0, ρ1, ρ2, ρ3, ρ4, ↓reduceIte, Nat.reduceEqDiff, Nat.reduceAdd, Int.reduceOfNat, Int.reduceNegSucc, reduceCtorEq, ρ5, ρ6, ρ7, ρ8, srcR_c, src_n, src_v, src_s, bnd, lenV, capV, ρ9, ρ10, ρ11, ρ12, ρ13, ρ14, ρ15, ρ16, ρ17, ρ18, ρ19, ρ20, ρ21, ρ22, ρ23, ρ24, Kd.isRo, ρ25, ρ26, bldV, Nat.reduceLeDiff, Int.reduceMul, Int.reduceAdd, Int.reduceSub, Int.reduceToNat, maxLen_eq, zeros_one, appS_some, appV_n, appV_v, appH_t, appH_f, Kd.isEx, ρ27, partV, CH.set_set, lkV, lkR, isKey, mupV, nxtV, ρ28, ρ29, f5, f11, f12, hag4, hag3, hag2, hag, hb', hgq, m3, hm]) | (with_reducible first | refine condK_dec (fun _ => ?_) fun _ => ?_ | refine grd_dec (fun _ => ?_) fun _ => ?_ | refine egrd_dec (fun _ => ?_) fun _ => ?_))
      exact ⟨_, by omega, i + 1, rfl, by omega, rfl⟩
    case neg =>
    repeat' (first | (simp (disch := first | omega | (decide +kernel) | (repeat first | assumption | exact HExt.refl _ | refine HExt.set ?_ (by first | omega | (simp only [new_nx, set_nx]; omega)) _ | refine HExt.new ?_ _)) only [↓RD, RU, accW_t, accW_f, isW, ↓putF_get, ↓putF_none, ↓evF_t, ↓evF_c, ↓evF_f, new_nx, set_nx, new_get, set_get, getD_zero, getD_succ, u_not, pop, lop, aop, wop, resL, resV, tupleV, akV, isVal, isCell, Value.cells, ρ0, ρ1, ρ2, ρ3, ρ4, ↓reduceIte, Nat.reduceEqDiff, Nat.reduceAdd, Int.reduceOfNat, Int.reduceNegSucc, reduceCtorEq, ρ5, ρ6, ρ7, ρ8, srcR_c, src_n, src_v, src_s, bnd, lenV, capV, ρ9, ρ10, ρ11, ρ12, ρ13, ρ14, ρ15, ρ16, ρ17, ρ18, ρ19, ρ20, ρ21, ρ22, ρ23, ρ24, Kd.isRo, ρ25, ρ26, bldV, Nat.reduceLeDiff, Int.reduceMul, Int.reduceAdd, Int.reduceSub, Int.reduceToNat, maxLen_eq, zeros_one, appS_some, appV_n, appV_v, appH_t, appH_f, Kd.isEx, ρ27, partV, CH.set_set, lkV, lkR, isKey, mupV, nxtV, ρ28, ρ29, f5, f11, f12, hag4, hag3, hag2, hag, hb', hgq]) | (with_reducible first | refine condK_dec (fun _ => ?_) fun _ => ?_ | refine grd_dec (fun _ => ?_) fun _ => ?_ | refine egrd_dec (fun _ => ?_) fun _ => ?_))
    exact ⟨_, by omega, q + 1, rfl, by omega, rfl⟩
  case neg =>
  repeat' (first | (simp (disch := first | omega | (decide +kernel) | (repeat first | assumption | exact HExt.refl _ | refine HExt.set ?_ (by first | omega | (simp only [new_nx, set_nx]; omega)) _ | refine HExt.new ?_ _)) only [↓RD, RU, accW_t, accW_f, isW, ↓putF_get, ↓putF_none, ↓evF_t, ↓evF_c, ↓evF_f, new_nx, set_nx, new_get, set_get, getD_zero, getD_succ, u_not, pop, lop, aop, wop, resL, resV, tupleV, akV, isVal, isCell, Value.cells, ρ0, ρ1, ρ2, ρ3, ρ4, ↓reduceIte, Nat.reduceEqDiff, Nat.reduceAdd, Int.reduceOfNat, Int.reduceNegSucc, reduceCtorEq, ρ5, ρ6, ρ7, ρ8, srcR_c, src_n, src_v, src_s, bnd, lenV, capV, ρ9, ρ10, ρ11, ρ12, ρ13, ρ14, ρ15, ρ16, ρ17, ρ18, ρ19, ρ20, ρ21, ρ22, ρ23, ρ24, Kd.isRo, ρ25, ρ26, bldV, Nat.reduceLeDiff, Int.reduceMul, Int.reduceAdd, Int.reduceSub, Int.reduceToNat, maxLen_eq, zeros_one, appS_some, appV_n, appV_v, appH_t, appH_f, Kd.isEx, ρ27, partV, CH.set_set, lkV, lkR, isKey, mupV, nxtV, ρ28, ρ29, f5, f11, hag3, hag2, hag]) | (with_reducible first | refine condK_dec (fun _ => ?_) fun _ => ?_ | refine grd_dec (fun _ => ?_) fun _ => ?_ | refine egrd_dec (fun _ => ?_) fun _ => ?_))
  refine loop_w (fun m fr K4 => ∃ j : Nat, m = n - j ∧ j ≤ n ∧ fr 13 = .int .i64 (j : Int) ∧ K4 = K3) (n := n) ⟨0, rfl, Nat.zero_le _, by (repeat' (first | (simp (disch := first | omega | (decide +kernel) | (repeat first | assumption | exact HExt.refl _ | refine HExt.set ?_ (by first | omega | (simp only [new_nx, set_nx]; omega)) _ | refine HExt.new ?_ _)) only [↓RD, RU, accW_t, accW_f, isW, ↓putF_get, ↓putF_none, ↓evF_t, ↓evF_c, ↓evF_f, new_nx, set_nx, new_get, set_get, getD_zero, getD_succ, u_not, pop, lop, aop, wop, resL, resV, tupleV, akV, isVal, isCell, Value.cells, ρ0, ρ1, ρ2, ρ3, ρ4, ↓reduceIte, Nat.reduceEqDiff, Nat.reduceAdd, Int.reduceOfNat, Int.reduceNegSucc, reduceCtorEq, ρ5, ρ6, ρ7, ρ8, srcR_c, src_n, src_v, src_s, bnd, lenV, capV, ρ9, ρ10, ρ11, ρ12, ρ13, ρ14, ρ15, ρ16, ρ17, ρ18, ρ19, ρ20, ρ21, ρ22, ρ23, ρ24, Kd.isRo, ρ25, ρ26, bldV, Nat.reduceLeDiff, Int.reduceMul, Int.reduceAdd, Int.reduceSub, Int.reduceToNat, maxLen_eq, zeros_one, appS_some, appV_n, appV_v, appH_t, appH_f, Kd.isEx, ρ27, partV, CH.set_set, lkV, lkR, isKey, mupV, nxtV, ρ28, ρ29]) | (with_reducible first | refine condK_dec (fun _ => ?_) fun _ => ?_ | refine grd_dec (fun _ => ?_) fun _ => ?_ | refine egrd_dec (fun _ => ?_) fun _ => ?_))); all_goals rfl, rfl⟩ ?_
  rintro m fr4 K4 ⟨j, rfl, hj, f13, rfl⟩ hag4
  by_cases hjn : j < n
  case pos =>
    have g1 := hor j hjn
    have hLj := hL1 j hjn
    repeat' (first | (simp (disch := first | omega | (decide +kernel) | (repeat first | assumption | exact HExt.refl _ | refine HExt.set ?_ (by first | omega | (simp only [new_nx, set_nx]; omega)) _ | refine HExt.new ?_ _)) only [↓RD, RU, accW_t, accW_f, isW, ↓putF_get, ↓putF_none, ↓evF_t, ↓evF_c, ↓evF_f, new_nx, set_nx, new_get, set_get, getD_zero, getD_succ, u_not, pop, lop, aop, wop, resL, resV, tupleV, akV, isVal, isCell, Value.cells, ρ0, ρ1, ρ2, ρ3, ρ4, ↓reduceIte, Nat.reduceEqDiff, Nat.reduceAdd, Int.reduceOfNat, Int.reduceNegSucc, reduceCtorEq, ρ5, ρ6, ρ7, ρ8, srcR_c, src_n, src_v, src_s, bnd, lenV, capV, ρ9, ρ10, ρ11, ρ12, ρ13, ρ14, ρ15, ρ16, ρ17, ρ18, ρ19, ρ20, ρ21, ρ22, ρ23, ρ24, Kd.isRo, ρ25, ρ26, bldV, Nat.reduceLeDiff, Int.reduceMul, Int.reduceAdd, Int.reduceSub, Int.reduceToNat, maxLen_eq, zeros_one, appS_some, appV_n, appV_v, appH_t, appH_f, Kd.isEx, ρ27, partV, CH.set_set, lkV, lkR, isKey, mupV, nxtV, ρ28, ρ29, f13, hag4, hag3, hag2, hag, hKb2, hol, g1]) | (with_reducible first | refine condK_dec (fun _ => ?_) fun _ => ?_ | refine grd_dec (fun _ => ?_) fun _ => ?_ | refine egrd_dec (fun _ => ?_) fun _ => ?_))
    refine loop_w (fun m fr K5 => ∃ i : Nat, m = L j - i ∧ i ≤ L j ∧ fr 14 = .int .i64 (i : Int) ∧ K5 = K4) (n := L j) ⟨0, rfl, Nat.zero_le _, by (repeat' (first | (simp (disch := first | omega | (decide +kernel) | (repeat first | assumption | exact HExt.refl _ | refine HExt.set ?_ (by first | omega | (simp only [new_nx, set_nx]; omega)) _ | refine HExt.new ?_ _)) only [↓RD, RU, accW_t, accW_f, isW, ↓putF_get, ↓putF_none, ↓evF_t, ↓evF_c, ↓evF_f, new_nx, set_nx, new_get, set_get, getD_zero, getD_succ, u_not, pop, lop, aop, wop, resL, resV, tupleV, akV, isVal, isCell, Value.cells, ρ0, ρ1, ρ2, ρ3, ρ4, ↓reduceIte, Nat.reduceEqDiff, Nat.reduceAdd, Int.reduceOfNat, Int.reduceNegSucc, reduceCtorEq, ρ5, ρ6, ρ7, ρ8, srcR_c, src_n, src_v, src_s, bnd, lenV, capV, ρ9, ρ10, ρ11, ρ12, ρ13, ρ14, ρ15, ρ16, ρ17, ρ18, ρ19, ρ20, ρ21, ρ22, ρ23, ρ24, Kd.isRo, ρ25, ρ26, bldV, Nat.reduceLeDiff, Int.reduceMul, Int.reduceAdd, Int.reduceSub, Int.reduceToNat, maxLen_eq, zeros_one, appS_some, appV_n, appV_v, appH_t, appH_f, Kd.isEx, ρ27, partV, CH.set_set, lkV, lkR, isKey, mupV, nxtV, ρ28, ρ29]) | (with_reducible first | refine condK_dec (fun _ => ?_) fun _ => ?_ | refine grd_dec (fun _ => ?_) fun _ => ?_ | refine egrd_dec (fun _ => ?_) fun _ => ?_))); all_goals rfl, rfl⟩ ?_
    rintro m fr5 K5 ⟨i, rfl, hi, f14, rfl⟩ hag5
    by_cases hiW : i < L j
    case pos =>
      have hrv := hR j hjn
      have hPj : P j = true := by
        cases hP : P j with
        | true => rfl
        | false => rw [hP] at hrv; simp only [Bool.false_eq_true, if_false] at hrv; omega
      rw [if_pos hPj] at hrv
      obtain ⟨hrv1, hrv2, hrv3⟩ := hrv
      obtain ⟨cx, r1, r3, r4⟩ := hA2 j hjn hPj
      rw [hrv1, hrv2] at g1
      have hm := r4 i (by omega) hiW
      unfold mkv at hm
      repeat' (first | (simp (disch := first | omega | (decide +kernel) | (repeat first | assumption | exact HExt.refl _ | refine HExt.set ?_ (by first | omega | (simp only [new_nx, set_nx]; omega)) _ | refine HExt.new ?_ _)) only [↓RD, RU, accW_t, accW_f, isW, ↓putF_get, ↓putF_none, ↓evF_t, ↓evF_c, ↓evF_f, new_nx, set_nx, new_get, set_get, getD_zero, getD_succ, u_not, pop, lop, aop, wop, resL, resV, tupleV, akV, isVal, isCell, Value.cells, ρ0, ρ1, ρ2, ρ3, ρ4, ↓reduceIte, Nat.reduceEqDiff, Nat.reduceAdd, Int.reduceOfNat, Int.reduceNegSucc, reduceCtorEq, ρ5, ρ6, ρ7, ρ8, srcR_c, src_n, src_v, src_s, bnd, lenV, capV, ρ9, ρ10, ρ11, ρ12, ρ13, ρ14, ρ15, ρ16, ρ17, ρ18, ρ19, ρ20, ρ21, ρ22, ρ23, ρ24, Kd.isRo, ρ25, ρ26, bldV, Nat.reduceLeDiff, Int.reduceMul, Int.reduceAdd, Int.reduceSub, Int.reduceToNat, maxLen_eq, zeros_one, appS_some, appV_n, appV_v, appH_t, appH_f, Kd.isEx, ρ27, partV, CH.set_set, lkV, lkR, isKey, mupV, nxtV, ρ28, ρ29, f13, f14, hag5, hag4, hag3, hag2, hag, hKb2, hol, g1, r1, hm]) | (with_reducible first | refine condK_dec (fun _ => ?_) fun _ => ?_ | refine grd_dec (fun _ => ?_) fun _ => ?_ | refine egrd_dec (fun _ => ?_) fun _ => ?_))
      exact ⟨_, by omega, i + 1, rfl, by omega, rfl⟩
    case neg =>
    repeat' (first | (simp (disch := first | omega | (decide +kernel) | (repeat first | assumption | exact HExt.refl _ | refine HExt.set ?_ (by first | omega | (simp only [new_nx, set_nx]; omega)) _ | refine HExt.new ?_ _)) only [↓RD, RU, accW_t, accW_f, isW, ↓putF_get, ↓putF_none, ↓evF_t, ↓evF_c, ↓evF_f, new_nx, set_nx, new_get, set_get, getD_zero, getD_succ, u_not, pop, lop, aop, wop, resL, resV, tupleV, akV, isVal, isCell, Value.cells, ρ0, ρ1, ρ2, ρ3, ρ4, ↓reduceIte, Nat.reduceEqDiff, Nat.reduceAdd, Int.reduceOfNat, Int.reduceNegSucc, reduceCtorEq, ρ5, ρ6, ρ7, ρ8, srcR_c, src_n, src_v, src_s, bnd, lenV, capV, ρ9, ρ10, ρ11, ρ12, ρ13, ρ14, ρ15, ρ16, ρ17, ρ18, ρ19, ρ20, ρ21, ρ22, ρ23, ρ24, Kd.isRo, ρ25, ρ26, bldV, Nat.reduceLeDiff, Int.reduceMul, Int.reduceAdd, Int.reduceSub, Int.reduceToNat, maxLen_eq, zeros_one, appS_some, appV_n, appV_v, appH_t, appH_f, Kd.isEx, ρ27, partV, CH.set_set, lkV, lkR, isKey, mupV, nxtV, ρ28, ρ29, f13, f14, hag5, hag4, hag3, hag2, hag, hKb2, hol, g1]) | (with_reducible first | refine condK_dec (fun _ => ?_) fun _ => ?_ | refine grd_dec (fun _ => ?_) fun _ => ?_ | refine egrd_dec (fun _ => ?_) fun _ => ?_))
    exact ⟨_, by omega, j + 1, rfl, by omega, rfl⟩
  case neg =>
  repeat' (first | (simp (disch := first | omega | (decide +kernel) | (repeat first | assumption | exact HExt.refl _ | refine HExt.set ?_ (by first | omega | (simp only [new_nx, set_nx]; omega)) _ | refine HExt.new ?_ _)) only [↓RD, RU, accW_t, accW_f, isW, ↓putF_get, ↓putF_none, ↓evF_t, ↓evF_c, ↓evF_f, new_nx, set_nx, new_get, set_get, getD_zero, getD_succ, u_not, pop, lop, aop, wop, resL, resV, tupleV, akV, isVal, isCell, Value.cells, ρ0, ρ1, ρ2, ρ3, ρ4, ↓reduceIte, Nat.reduceEqDiff, Nat.reduceAdd, Int.reduceOfNat, Int.reduceNegSucc, reduceCtorEq, ρ5, ρ6, ρ7, ρ8, srcR_c, src_n, src_v, src_s, bnd, lenV, capV, ρ9, ρ10, ρ11, ρ12, ρ13, ρ14, ρ15, ρ16, ρ17, ρ18, ρ19, ρ20, ρ21, ρ22, ρ23, ρ24, Kd.isRo, ρ25, ρ26, bldV, Nat.reduceLeDiff, Int.reduceMul, Int.reduceAdd, Int.reduceSub, Int.reduceToNat, maxLen_eq, zeros_one, appS_some, appV_n, appV_v, appH_t, appH_f, Kd.isEx, ρ27, partV, CH.set_set, lkV, lkR, isKey, mupV, nxtV, ρ28, ρ29, f13, hag4, hag3, hag2, hag, hKb2, hol]) | (with_reducible first | refine condK_dec (fun _ => ?_) fun _ => ?_ | refine grd_dec (fun _ => ?_) fun _ => ?_ | refine egrd_dec (fun _ => ?_) fun _ => ?_))
  all_goals rfl
end Can
end Go.Proofs.Ytopmheekeooodaa
