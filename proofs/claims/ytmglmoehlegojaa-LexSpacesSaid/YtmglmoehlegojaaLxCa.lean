/- Lex: how long the answer is; bytes; the document's Same; Lex as tokens that lie. -/
import Derived.Test.YtmglmoehlegojaaLxQ
namespace Go.Proofs.Ytmglmoehlegojaa
namespace Can
open Go Go.RowKit
set_option linter.unusedSimpArgs false
set_option linter.unusedVariables false
set_option maxRecDepth 4000
theorem splitN_mem : ∀ {src : List UInt8}, ∀ t ∈ splitN src, t.length ≤ src.length
  | [], t, h => by simp [splitN] at h; subst h; simp
  | c :: r, t, h => by
    simp only [splitN] at h
    split at h
    · rcases List.mem_cons.1 h with rfl | h
      · simp
      · have := splitN_mem t h; simp; omega
    · have ih := fun t h => splitN_mem (src := r) t h
      split at h
      · rename_i a b hq
        rcases List.mem_cons.1 h with rfl | h
        · have := ih a (by rw [hq]; simp); simp; omega
        · have := ih t (by rw [hq]; simp [h]); simp; omega
      · simp at h; subst h; simp
theorem gok_t : @gOK Try.prog 33 = true := by unfold gOK; kernel_rfl
theorem gks_t : @gKs Try.prog 33 = [0, 0, 1] := by unfold gKs; kernel_rfl
theorem tokAt : ∀ {ts : List Tok} {i : Nat} (h : i < ts.length), ((ts.flatMap tokC).drop (i * 3)).take 3 = tokC ts[i]
  | t :: ts, 0, _ => by
    simp only [List.flatMap_cons, Nat.zero_mul, List.drop_zero]
    rfl
  | t :: ts, i + 1, h => by
    have h' : i < ts.length := by simpa using h
    have e : (i + 1) * 3 = (tokC t).length + i * 3 := by simp [tokC]; omega
    rw [List.flatMap_cons, e, ← List.drop_drop, List.drop_left, tokAt h']
    rfl
theorem tokLen {ts : List Tok} : (ts.flatMap tokC).length = ts.length * 3 := flat_len (fun x => (tokC_ok x).1) ts
theorem rowsT_len : ∀ {ts : List (List UInt8)} {line d : Nat} {st st' : List Nat} {x : List Tok}, rowsT line ts d st = .ok (x, st') → st.getLast? = some 0 → x.length + st'.length ≤ st.length + (ts.map List.length).sum + 3 * ts.length
  | [], line, d, st, st', x, h, _ => by cases h; simp
  | t :: ts, line, d, st, st', x, h, hz => by
    rw [rowsT_cons] at h
    cases hq : rowT line t d st with
    | error e => rw [hq] at h; cases h
    | ok y =>
      obtain ⟨a, d1, st1⟩ := y
      rw [hq] at h
      simp only at h
      cases hw : rowsT (line + 1) ts d1 st1 with
      | error e => rw [hw] at h; cases h
      | ok z =>
        obtain ⟨b, st2⟩ := z
        rw [hw] at h
        cases h
        obtain ⟨g1, g2, g3⟩ := rowT_ok hq hz
        have := rowsT_len hw g3
        simp only [List.length_append, List.map_cons, List.sum_cons, List.length_cons]
        omega
theorem splitN_sum : ∀ {src : List UInt8}, ((splitN src).map List.length).sum + (splitN src).length = src.length + 1
  | [] => rfl
  | c :: r => by
    have ih := splitN_sum (src := r)
    simp only [splitN]
    split
    · simp only [List.map_cons, List.sum_cons, List.length_cons, List.length_nil]; omega
    · split
      · rename_i a b hq
        rw [hq] at ih
        simp only [List.map_cons, List.sum_cons, List.length_cons] at ih ⊢
        omega
      · rename_i hq
        exact absurd hq splitN_ne
theorem lexT_len {src : List UInt8} {ts : List Tok} (h : lexT src = .ok ts) : ts.length ≤ 100000 := by
  unfold lexT at h
  split at h
  · cases h
  · cases hq : rowsT 1 (splitN src) 0 [0] with
    | error e => rw [hq] at h; cases h
    | ok y =>
      obtain ⟨x, st⟩ := y
      rw [hq] at h
      cases h
      have h1 := rowsT_len hq rfl
      have h2 := splitN_sum (src := src)
      simp only [endT, List.length_append, List.length_replicate, List.length_cons, List.length_nil] at h1 ⊢
      omega
theorem u8_wf {x : Int} (h : (Lit.int .u8 x).wf = true) : ((x.toNat.toUInt8).toNat : Int) = x := by
  have := bounds_u8 h
  have h1 : x.toNat.toUInt8.toNat = x.toNat % 256 := by simp
  omega
theorem u8_of {H : CH} {q : Option Addr} {c : Nat} {xs : List Int} (h : SlAt 1 (CInt .u8) H q c xs) : ∃ src, xs = u8i src := by
  refine ⟨xs.map fun x => x.toNat.toUInt8, ?_⟩
  have hw : ∀ x ∈ xs, (Lit.int .u8 x).wf = true := by
    rcases h with ⟨rfl, _⟩ | ⟨l, o, os, e, kd, _, _, _, _, _, _, hR⟩
    · intro x hx; cases hx
    · intro x hx
      obtain ⟨i, hi, rfl⟩ := List.getElem_of_mem hx
      exact (hR i hi).2
  clear h
  induction xs with
  | nil => rfl
  | cons x xs ih =>
    simp only [u8i, List.map_cons]
    rw [u8_wf (hw x (by simp))]
    congr 1
    exact ih fun y hy => hw y (by simp [hy])
theorem u8i_len {src : List UInt8} : (u8i src).length = src.length := by simp [u8i]
/-- Tokens as they lie: the row's block, if there is one. -/
def TkAt (K : CH) (v : Value) (ts : List Tok) : Prop :=
  (ts = [] ∧ ∃ q, v = .slice q 0 0) ∨ ∃ b kd c os, v = .slice (some ⟨b, 0, none⟩) ts.length c ∧ K.ob b = .cells os 33 kd ∧ os.take (ts.length * 3) = ts.flatMap tokC
theorem TkAt.len {K : CH} {v : Value} {ts : List Tok} (h : TkAt K v ts) : ∃ q c, v = .slice q ts.length c := by
  rcases h with ⟨rfl, q, rfl⟩ | ⟨b, kd, c, os, rfl, _⟩
  · exact ⟨q, 0, rfl⟩
  · exact ⟨_, _, rfl⟩
theorem TkAt.get {K : CH} {v : Value} {ts : List Tok} (h : TkAt K v ts) {i : Nat} (hi : i < ts.length) : ∃ b kd c os, v = .slice (some ⟨b, 0, none⟩) ts.length c ∧ K.ob b = .cells os 33 kd ∧ i * 3 + 3 ≤ os.length ∧ (os.drop (i * 3)).take 3 = [.int .i64 (ts[i].kind : Nat), .int .i64 (ts[i].line : Nat), .string ⟨⟨ts[i].text⟩⟩] := by
  rcases h with ⟨rfl, _⟩ | ⟨b, kd, c, os, rfl, h1, h2⟩
  · cases hi
  · have hl := congrArg List.length h2
    rw [tokLen, List.length_take] at hl
    refine ⟨b, kd, c, os, rfl, h1, by omega, ?_⟩
    have := tokAt hi
    rw [← h2, List.drop_take, List.take_take] at this
    rw [show min 3 (ts.length * 3 - i * 3) = 3 by omega] at this
    exact this
theorem eqTok {a b : Int} {s : List UInt8} : eqAll [0, 0, 1] [.int .i64 a, .int .i64 b, .string ⟨⟨s⟩⟩] [.int .i64 a, .int .i64 b, .string ⟨⟨s⟩⟩] = some true := by
  have : ((⟨⟨s⟩⟩ : ByteArray) == ⟨⟨s⟩⟩) = true := by
    show ((⟨s⟩ : Array UInt8) == ⟨s⟩) = true
    exact beq_self_eq_true _
  simp only [eqAll, if_true, Option.map_some, decide_true, Bool.true_and]
  rw [this]; rfl
theorem same_wp (K : CH) {v v' : Value} {ts : List Tok} (h : TkAt K v ts) (h' : TkAt K v' ts) (hl : ts.length ≤ 100000) : WpF (tblG Try.prog LG GG) 12 [v, v'] K fun r K' => r = .bool true ∧ K' = K := by
  obtain ⟨q, c, hv⟩ := h.len
  obtain ⟨q', c', hv'⟩ := h'.len
  refine wpF_rG (by rfl) (by kernel_rfl) ?_; (conv in (rF _ _).body => reduce); (conv in (rF _ _).res => reduce)
  repeat' (first | (simp (disch := first | omega | (decide +kernel) | (repeat first | assumption | exact HExt.refl _ | refine HExt.set ?_ (by first | omega | (simp only [new_nx, set_nx]; omega)) _ | refine HExt.new ?_ _)) only [↓RD, RU, accW_t, accW_f, isW, ↓putF_get, ↓putF_none, ↓evF_t, ↓evF_c, ↓evF_f, new_nx, set_nx, new_get, set_get, getD_zero, getD_succ, u_not, pop, lop, aop, wop, resL, resV, tupleV, akV, isVal, isCell, Value.cells, ρ0, ρ1, ρ2, ρ3, ρ4, ↓reduceIte, Nat.reduceEqDiff, Nat.reduceAdd, Int.reduceOfNat, Int.reduceNegSucc, reduceCtorEq, ρ5, ρ6, ρ7, ρ8, srcR_c, src_n, src_v, src_s, bnd, lenV, capV, ρ9, ρ10, ρ11, ρ12, ρ13, ρ14, ρ15, ρ16, ρ17, ρ18, ρ19, ρ20, ρ21, ρ22, ρ23, ρ24, Kd.isRo, ρ25, ρ26, bldV, Nat.reduceLeDiff, Int.reduceMul, Int.reduceAdd, Int.reduceSub, Int.reduceToNat, maxLen_eq, zeros_one, appS_some, appV_n, appV_v, appH_t, appH_f, Kd.isEx, ρ27, partV, CH.set_set, lkV, lkR, isKey, mupV, nxtV, ρ28, ρ29, hv, hv']) | (with_reducible first | refine condK_dec (fun _ => ?_) fun _ => ?_ | refine grd_dec (fun _ => ?_) fun _ => ?_ | refine egrd_dec (fun _ => ?_) fun _ => ?_))
  refine loop_w (fun n fr K1 => ∃ i : Nat, n = ts.length - i ∧ i ≤ ts.length ∧ fr 5 = .int .i64 (i : Nat) ∧ K1 = K) (n := ts.length) ⟨0, rfl, by omega, by (repeat' (first | (simp (disch := first | omega | (decide +kernel) | (repeat first | assumption | exact HExt.refl _ | refine HExt.set ?_ (by first | omega | (simp only [new_nx, set_nx]; omega)) _ | refine HExt.new ?_ _)) only [↓RD, RU, accW_t, accW_f, isW, ↓putF_get, ↓putF_none, ↓evF_t, ↓evF_c, ↓evF_f, new_nx, set_nx, new_get, set_get, getD_zero, getD_succ, u_not, pop, lop, aop, wop, resL, resV, tupleV, akV, isVal, isCell, Value.cells, ρ0, ρ1, ρ2, ρ3, ρ4, ↓reduceIte, Nat.reduceEqDiff, Nat.reduceAdd, Int.reduceOfNat, Int.reduceNegSucc, reduceCtorEq, ρ5, ρ6, ρ7, ρ8, srcR_c, src_n, src_v, src_s, bnd, lenV, capV, ρ9, ρ10, ρ11, ρ12, ρ13, ρ14, ρ15, ρ16, ρ17, ρ18, ρ19, ρ20, ρ21, ρ22, ρ23, ρ24, Kd.isRo, ρ25, ρ26, bldV, Nat.reduceLeDiff, Int.reduceMul, Int.reduceAdd, Int.reduceSub, Int.reduceToNat, maxLen_eq, zeros_one, appS_some, appV_n, appV_v, appH_t, appH_f, Kd.isEx, ρ27, partV, CH.set_set, lkV, lkR, isKey, mupV, nxtV, ρ28, ρ29]) | (with_reducible first | refine condK_dec (fun _ => ?_) fun _ => ?_ | refine grd_dec (fun _ => ?_) fun _ => ?_ | refine egrd_dec (fun _ => ?_) fun _ => ?_)); all_goals rfl), rfl⟩ ?_
  rintro n fr K1 ⟨i, rfl, hi, f5, rfl⟩ hag
  by_cases hil : i < ts.length
  · obtain ⟨b, kd, c1, os, g1, g2, g3, g4⟩ := h.get hil
    obtain ⟨b', kd', c1', os', g1', g2', g3', g4'⟩ := h'.get hil
    rw [hv] at g1
    rw [hv'] at g1'
    obtain ⟨rfl, rfl⟩ : q = some ⟨b, 0, none⟩ ∧ c = c1 := by cases g1; exact ⟨rfl, rfl⟩
    obtain ⟨rfl, rfl⟩ : q' = some ⟨b', 0, none⟩ ∧ c' = c1' := by cases g1'; exact ⟨rfl, rfl⟩
    repeat' (first | (simp (disch := first | omega | (decide +kernel) | (repeat first | assumption | exact HExt.refl _ | refine HExt.set ?_ (by first | omega | (simp only [new_nx, set_nx]; omega)) _ | refine HExt.new ?_ _)) only [↓RD, RU, accW_t, accW_f, isW, ↓putF_get, ↓putF_none, ↓evF_t, ↓evF_c, ↓evF_f, new_nx, set_nx, new_get, set_get, getD_zero, getD_succ, u_not, pop, lop, aop, wop, resL, resV, tupleV, akV, isVal, isCell, Value.cells, ρ0, ρ1, ρ2, ρ3, ρ4, ↓reduceIte, Nat.reduceEqDiff, Nat.reduceAdd, Int.reduceOfNat, Int.reduceNegSucc, reduceCtorEq, ρ5, ρ6, ρ7, ρ8, srcR_c, src_n, src_v, src_s, bnd, lenV, capV, ρ9, ρ10, ρ11, ρ12, ρ13, ρ14, ρ15, ρ16, ρ17, ρ18, ρ19, ρ20, ρ21, ρ22, ρ23, ρ24, Kd.isRo, ρ25, ρ26, bldV, Nat.reduceLeDiff, Int.reduceMul, Int.reduceAdd, Int.reduceSub, Int.reduceToNat, maxLen_eq, zeros_one, appS_some, appV_n, appV_v, appH_t, appH_f, Kd.isEx, ρ27, partV, CH.set_set, lkV, lkR, isKey, mupV, nxtV, ρ28, ρ29, hag, f5, g2, g3, g4, g2', g3', g4', gok_t, gks_t, eqTok]) | (with_reducible first | refine condK_dec (fun _ => ?_) fun _ => ?_ | refine grd_dec (fun _ => ?_) fun _ => ?_ | refine egrd_dec (fun _ => ?_) fun _ => ?_))
    all_goals exact ⟨ts.length - (i + 1), by omega, i + 1, rfl, by omega, rfl⟩
  · repeat' (first | (simp (disch := first | omega | (decide +kernel) | (repeat first | assumption | exact HExt.refl _ | refine HExt.set ?_ (by first | omega | (simp only [new_nx, set_nx]; omega)) _ | refine HExt.new ?_ _)) only [↓RD, RU, accW_t, accW_f, isW, ↓putF_get, ↓putF_none, ↓evF_t, ↓evF_c, ↓evF_f, new_nx, set_nx, new_get, set_get, getD_zero, getD_succ, u_not, pop, lop, aop, wop, resL, resV, tupleV, akV, isVal, isCell, Value.cells, ρ0, ρ1, ρ2, ρ3, ρ4, ↓reduceIte, Nat.reduceEqDiff, Nat.reduceAdd, Int.reduceOfNat, Int.reduceNegSucc, reduceCtorEq, ρ5, ρ6, ρ7, ρ8, srcR_c, src_n, src_v, src_s, bnd, lenV, capV, ρ9, ρ10, ρ11, ρ12, ρ13, ρ14, ρ15, ρ16, ρ17, ρ18, ρ19, ρ20, ρ21, ρ22, ρ23, ρ24, Kd.isRo, ρ25, ρ26, bldV, Nat.reduceLeDiff, Int.reduceMul, Int.reduceAdd, Int.reduceSub, Int.reduceToNat, maxLen_eq, zeros_one, appS_some, appV_n, appV_v, appH_t, appH_f, Kd.isEx, ρ27, partV, CH.set_set, lkV, lkR, isKey, mupV, nxtV, ρ28, ρ29, hag, f5]) | (with_reducible first | refine condK_dec (fun _ => ?_) fun _ => ?_ | refine grd_dec (fun _ => ?_) fun _ => ?_ | refine egrd_dec (fun _ => ?_) fun _ => ?_))
/-- What Lex answered, as tokens that lie; ts: none where it answered an error. -/
def lexL (src : List UInt8) : List Tok := match lexT src with
  | .ok ts => ts
  | .error _ => []
theorem lexL_len {src : List UInt8} : (lexL src).length ≤ 100000 := by
  unfold lexL
  cases h : lexT src with
  | ok ts => exact lexT_len h
  | error e => simp
def LxAt (A K : CH) (v : Value) (ts : List Tok) : Prop := ∃ p4 p5 vt, v = .tuple #[vt, p4, p5] ∧ Grw A 33 3 tokC K vt ts
theorem lexl_wp (H : CH) {q : Option Addr} {c : Nat} {src : List UInt8} (h : SlAt 1 (CInt .u8) H q c (u8i src)) :
    WpF (tblG Try.prog LG GG) 9 [.slice q src.length c] H fun v K => HExt H K ∧ LxAt H K v (lexL src) :=
  (lex_wp H h).mono fun v K ⟨hx, hv⟩ => by
    refine ⟨hx, ?_⟩
    unfold lexL
    cases hL : lexT src with
    | error e => rw [hL] at hv; exact ⟨_, _, _, hv, .inl ⟨rfl, rfl⟩⟩
    | ok ts => rw [hL] at hv; obtain ⟨vt, hv, hg⟩ := hv; exact ⟨_, _, _, hv, hg⟩
theorem Grw.tk {A K : CH} {v : Value} {ts : List Tok} (h : Grw A 33 3 tokC K v ts) : TkAt K v ts := by
  rcases h with ⟨rfl, rfl⟩ | ⟨b, kd, rfl, h1, h2, h3, h4⟩
  · exact .inl ⟨rfl, _, rfl⟩
  · exact .inr ⟨b, kd, _, _, rfl, h3, List.take_of_length_le (by rw [tokLen]; omega)⟩
end Can
end Go.Proofs.Ytmglmoehlegojaa
