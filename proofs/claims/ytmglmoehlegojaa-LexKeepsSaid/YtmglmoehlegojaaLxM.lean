/- Lex: the document's Same; LexKeeps walked. -/
import Derived.Test.YtmglmoehlegojaaLxC
namespace Go.Proofs.Ytmglmoehlegojaa
namespace Can
open Go Go.RowKit
set_option linter.unusedSimpArgs false
set_option linter.unusedVariables false
set_option maxRecDepth 4000
/-- Tokens as they lie: the row's block, if there is one. -/
def TkAt (K : CH) (v : Value) (ts : List Tok) : Prop :=
  (ts = [] ∧ ∃ q, v = .slice q 0 0) ∨ ∃ b kd c os, v = .slice (some ⟨b, 0, none⟩) ts.length c ∧ K.ob b = .cells os 33 kd ∧ os.take (ts.length * 3) = ts.flatMap tokC
theorem TkAt.len {K : CH} {v : Value} {ts : List Tok} (h : TkAt K v ts) : ∃ q c, v = .slice q ts.length c := by
  rcases h with ⟨rfl, q, rfl⟩ | ⟨b, kd, c, os, rfl, _⟩
  · exact ⟨q, 0, rfl⟩
  · exact ⟨_, _, rfl⟩
theorem TkAt.get {K : CH} {v : Value} {ts : List Tok} (h : TkAt K v ts) {i : Nat} (hi : i < ts.length) : ∃ b kd c os, v = .slice (some ⟨b, 0, none⟩) ts.length c ∧ K.ob b = .cells os 33 kd ∧ i * 3 + 3 ≤ os.length ∧ (os.drop (i * 3)).take 3 = [.int .i64 (ts[i].kind : Nat), .int .i64 (ts[i].line : Nat), .string ⟨⟨ts[i].text⟩⟩] := by
  rcases h with ⟨rfl, _⟩ | ⟨b, kd, c, os, rfl, h1, h2⟩
  · cases hi
  · have hl := congrArg List.length h2
    rw [tokLen, List.length_take] at hl
    refine ⟨b, kd, c, os, rfl, h1, by omega, ?_⟩
    have := tokAt hi
    rw [← h2, List.drop_take, List.take_take] at this
    rw [show min 3 (ts.length * 3 - i * 3) = 3 by omega] at this
    exact this
theorem eqTok {a b : Int} {s : List UInt8} : eqAll [0, 0, 1] [.int .i64 a, .int .i64 b, .string ⟨⟨s⟩⟩] [.int .i64 a, .int .i64 b, .string ⟨⟨s⟩⟩] = some true := by
  have : ((⟨⟨s⟩⟩ : ByteArray) == ⟨⟨s⟩⟩) = true := by
    show ((⟨s⟩ : Array UInt8) == ⟨s⟩) = true
    exact beq_self_eq_true _
  simp only [eqAll, if_true, Option.map_some, decide_true, Bool.true_and]
  rw [this]; rfl
theorem same_wp (K : CH) {v v' : Value} {ts : List Tok} (h : TkAt K v ts) (h' : TkAt K v' ts) (hl : ts.length ≤ 100000) : WpF (tblG Try.prog LG GG) 12 [v, v'] K fun r K' => r = .bool true ∧ K' = K := by
  obtain ⟨q, c, hv⟩ := h.len
  obtain ⟨q', c', hv'⟩ := h'.len
  refine wpF_rG (by rfl) (by kernel_rfl) ?_; (conv in (rF _ _).body => reduce); (conv in (rF _ _).res => reduce)
  repeat' (first | (simp (disch := first | omega | (decide +kernel) | (repeat first | assumption | exact HExt.refl _ | refine HExt.set ?_ (by first | omega | (simp only [new_nx, set_nx]; omega)) _ | refine HExt.new ?_ _)) only [↓RD, RU, accW_t, accW_f, isW, ↓putF_get, ↓putF_none, ↓evF_t, ↓evF_c, ↓evF_f, new_nx, set_nx, new_get, set_get, getD_zero, getD_succ, u_not, pop, lop, aop, wop, resL, resV, tupleV, akV, isVal, isCell, Value.cells, ρ0, ρ1, ρ2, ρ3, ρ4, ↓reduceIte, Nat.reduceEqDiff, Nat.reduceAdd, Int.reduceOfNat, Int.reduceNegSucc, reduceCtorEq, ρ5, ρ6, ρ7, ρ8, srcR_c, src_n, src_v, src_s, bnd, lenV, capV, ρ9, ρ10, ρ11, ρ12, ρ13, ρ14, ρ15, ρ16, ρ17, ρ18, ρ19, ρ20, ρ21, ρ22, ρ23, ρ24, Kd.isRo, ρ25, ρ26, bldV, Nat.reduceLeDiff, Int.reduceMul, Int.reduceAdd, Int.reduceSub, Int.reduceToNat, maxLen_eq, zeros_one, appS_some, appV_n, appV_v, appH_t, appH_f, Kd.isEx, ρ27, partV, CH.set_set, lkV, lkR, isKey, mupV, nxtV, ρ28, ρ29, hv, hv']) | (with_reducible first | refine condK_dec (fun _ => ?_) fun _ => ?_ | refine grd_dec (fun _ => ?_) fun _ => ?_ | refine egrd_dec (fun _ => ?_) fun _ => ?_))
  refine loop_w (fun n fr K1 => ∃ i : Nat, n = ts.length - i ∧ i ≤ ts.length ∧ fr 5 = .int .i64 (i : Nat) ∧ K1 = K) (n := ts.length) ⟨0, rfl, by omega, by (repeat' (first | (simp (disch := first | omega | (decide +kernel) | (repeat first | assumption | exact HExt.refl _ | refine HExt.set ?_ (by first | omega | (simp only [new_nx, set_nx]; omega)) _ | refine HExt.new ?_ _)) only [↓RD, RU, accW_t, accW_f, isW, ↓putF_get, ↓putF_none, ↓evF_t, ↓evF_c, ↓evF_f, new_nx, set_nx, new_get, set_get, getD_zero, getD_succ, u_not, pop, lop, aop, wop, resL, resV, tupleV, akV, isVal, isCell, Value.cells, ρ0, ρ1, ρ2, ρ3, ρ4, ↓reduceIte, Nat.reduceEqDiff, Nat.reduceAdd, Int.reduceOfNat, Int.reduceNegSucc, reduceCtorEq, ρ5, ρ6, ρ7, ρ8, srcR_c, src_n, src_v, src_s, bnd, lenV, capV, ρ9, ρ10, ρ11, ρ12, ρ13, ρ14, ρ15, ρ16, ρ17, ρ18, ρ19, ρ20, ρ21, ρ22, ρ23, ρ24, Kd.isRo, ρ25, ρ26, bldV, Nat.reduceLeDiff, Int.reduceMul, Int.reduceAdd, Int.reduceSub, Int.reduceToNat, maxLen_eq, zeros_one, appS_some, appV_n, appV_v, appH_t, appH_f, Kd.isEx, ρ27, partV, CH.set_set, lkV, lkR, isKey, mupV, nxtV, ρ28, ρ29]) | (with_reducible first | refine condK_dec (fun _ => ?_) fun _ => ?_ | refine grd_dec (fun _ => ?_) fun _ => ?_ | refine egrd_dec (fun _ => ?_) fun _ => ?_)); all_goals rfl), rfl⟩ ?_
  rintro n fr K1 ⟨i, rfl, hi, f5, rfl⟩ hag
  by_cases hil : i < ts.length
  · obtain ⟨b, kd, c1, os, g1, g2, g3, g4⟩ := h.get hil
    obtain ⟨b', kd', c1', os', g1', g2', g3', g4'⟩ := h'.get hil
    rw [hv] at g1
    rw [hv'] at g1'
    obtain ⟨rfl, rfl⟩ : q = some ⟨b, 0, none⟩ ∧ c = c1 := by cases g1; exact ⟨rfl, rfl⟩
    obtain ⟨rfl, rfl⟩ : q' = some ⟨b', 0, none⟩ ∧ c' = c1' := by cases g1'; exact ⟨rfl, rfl⟩
    repeat' (first | (simp (disch := first | omega | (decide +kernel) | (repeat first | assumption | exact HExt.refl _ | refine HExt.set ?_ (by first | omega | (simp only [new_nx, set_nx]; omega)) _ | refine HExt.new ?_ _)) only [↓RD, RU, accW_t, accW_f, isW, ↓putF_get, ↓putF_none, ↓evF_t, ↓evF_c, ↓evF_f, new_nx, set_nx, new_get, set_get, getD_zero, getD_succ, u_not, pop, lop, aop, wop, resL, resV, tupleV, akV, isVal, isCell, Value.cells, ρ0, ρ1, ρ2, ρ3, ρ4, ↓reduceIte, Nat.reduceEqDiff, Nat.reduceAdd, Int.reduceOfNat, Int.reduceNegSucc, reduceCtorEq, ρ5, ρ6, ρ7, ρ8, srcR_c, src_n, src_v, src_s, bnd, lenV, capV, ρ9, ρ10, ρ11, ρ12, ρ13, ρ14, ρ15, ρ16, ρ17, ρ18, ρ19, ρ20, ρ21, ρ22, ρ23, ρ24, Kd.isRo, ρ25, ρ26, bldV, Nat.reduceLeDiff, Int.reduceMul, Int.reduceAdd, Int.reduceSub, Int.reduceToNat, maxLen_eq, zeros_one, appS_some, appV_n, appV_v, appH_t, appH_f, Kd.isEx, ρ27, partV, CH.set_set, lkV, lkR, isKey, mupV, nxtV, ρ28, ρ29, hag, f5, g2, g3, g4, g2', g3', g4', gok_t, gks_t, eqTok]) | (with_reducible first | refine condK_dec (fun _ => ?_) fun _ => ?_ | refine grd_dec (fun _ => ?_) fun _ => ?_ | refine egrd_dec (fun _ => ?_) fun _ => ?_))
    all_goals exact ⟨ts.length - (i + 1), by omega, i + 1, rfl, by omega, rfl⟩
  · repeat' (first | (simp (disch := first | omega | (decide +kernel) | (repeat first | assumption | exact HExt.refl _ | refine HExt.set ?_ (by first | omega | (simp only [new_nx, set_nx]; omega)) _ | refine HExt.new ?_ _)) only [↓RD, RU, accW_t, accW_f, isW, ↓putF_get, ↓putF_none, ↓evF_t, ↓evF_c, ↓evF_f, new_nx, set_nx, new_get, set_get, getD_zero, getD_succ, u_not, pop, lop, aop, wop, resL, resV, tupleV, akV, isVal, isCell, Value.cells, ρ0, ρ1, ρ2, ρ3, ρ4, ↓reduceIte, Nat.reduceEqDiff, Nat.reduceAdd, Int.reduceOfNat, Int.reduceNegSucc, reduceCtorEq, ρ5, ρ6, ρ7, ρ8, srcR_c, src_n, src_v, src_s, bnd, lenV, capV, ρ9, ρ10, ρ11, ρ12, ρ13, ρ14, ρ15, ρ16, ρ17, ρ18, ρ19, ρ20, ρ21, ρ22, ρ23, ρ24, Kd.isRo, ρ25, ρ26, bldV, Nat.reduceLeDiff, Int.reduceMul, Int.reduceAdd, Int.reduceSub, Int.reduceToNat, maxLen_eq, zeros_one, appS_some, appV_n, appV_v, appH_t, appH_f, Kd.isEx, ρ27, partV, CH.set_set, lkV, lkR, isKey, mupV, nxtV, ρ28, ρ29, hag, f5]) | (with_reducible first | refine condK_dec (fun _ => ?_) fun _ => ?_ | refine grd_dec (fun _ => ?_) fun _ => ?_ | refine egrd_dec (fun _ => ?_) fun _ => ?_))
/-- What Lex answered, as tokens that lie; ts: none where it answered an error. -/
def lexL (src : List UInt8) : List Tok := match lexT src with
  | .ok ts => ts
  | .error _ => []
theorem lexL_len {src : List UInt8} : (lexL src).length ≤ 100000 := by
  unfold lexL
  cases h : lexT src with
  | ok ts => exact lexT_len h
  | error e => simp
def LxAt (A K : CH) (v : Value) (ts : List Tok) : Prop := ∃ p4 p5 vt, v = .tuple #[vt, p4, p5] ∧ Grw A 33 3 tokC K vt ts
theorem lexl_wp (H : CH) {q : Option Addr} {c : Nat} {src : List UInt8} (h : SlAt 1 (CInt .u8) H q c (u8i src)) :
    WpF (tblG Try.prog LG GG) 9 [.slice q src.length c] H fun v K => HExt H K ∧ LxAt H K v (lexL src) :=
  (lex_wp H h).mono fun v K ⟨hx, hv⟩ => by
    refine ⟨hx, ?_⟩
    unfold lexL
    cases hL : lexT src with
    | error e => rw [hL] at hv; exact ⟨_, _, _, hv, .inl ⟨rfl, rfl⟩⟩
    | ok ts => rw [hL] at hv; obtain ⟨vt, hv, hg⟩ := hv; exact ⟨_, _, _, hv, hg⟩
theorem Grw.tk {A K : CH} {v : Value} {ts : List Tok} (h : Grw A 33 3 tokC K v ts) : TkAt K v ts := by
  rcases h with ⟨rfl, rfl⟩ | ⟨b, kd, rfl, h1, h2, h3, h4⟩
  · exact .inl ⟨rfl, _, rfl⟩
  · exact .inr ⟨b, kd, _, _, rfl, h3, List.take_of_length_le (by rw [tokLen]; omega)⟩
def byC (src : List UInt8) : List Value := src.map fun c => Value.int .u8 (c.toNat : Int)
theorem byC_cell {src : List UInt8} : (byC src).all isCell = true := by
  rw [List.all_eq_true]
  intro x hx
  obtain ⟨c, _, rfl⟩ := List.mem_map.1 hx
  rfl
theorem byC_len {src : List UInt8} : (byC src).length = src.length := by simp [byC]
theorem by_src {H : CH} {q : Option Addr} {c : Nat} {src : List UInt8} (h : SlAt 1 (CInt .u8) H q c (u8i src)) : srcCells H 1 (.slice q src.length c) = some (byC src, src.length) := by
  have hs := src_ints h
  rw [show (u8i src).length = src.length by simp [u8i], flat_ints] at hs
  rw [hs]
  simp [u8i, byC]
theorem HExt.dead {A H : CH} (h : HExt A H) {l : Nat} (hl : A.nx ≤ l) (o : CObj) : HExt A ((H.set l .dead).new o) := (h.set hl _).new _
theorem room1 {H : CH} {q : Option Addr} {c : Nat} {src : List UInt8} (h : SlAt 1 (CInt .u8) H q c (u8i src)) (hm : src.length ≤ 140737488351232) :
    ∃ l1 c1 cs kd K2, appS (srcCells (H.new (.cells (zeros [.int .u8 0] ((src.length : Int) + 3).toNat) 5 .ex)) 1 (.slice q src.length c)) 5 1 1 (.slice (some ⟨H.nx, 0, none⟩) 0 ((src.length : Int) + 3).toNat) (H.new (.cells (zeros [.int .u8 0] ((src.length : Int) + 3).toNat) 5 .ex)) = some (.slice (some ⟨l1, 0, none⟩) src.length c1, K2) ∧ K2.ob l1 = .cells cs 5 kd ∧ kd.isRo = false ∧ cs.take src.length = byC src ∧ src.length ≤ cs.length ∧ H.nx ≤ l1 ∧ l1 < K2.nx ∧ HExt H K2 := by
  obtain ⟨n3, hn3⟩ : ∃ n3, ((src.length : Int) + 3).toNat = n3 := ⟨_, rfl⟩
  have hn3' : n3 = src.length + 3 := by omega
  rw [hn3]
  obtain ⟨K1, hK1⟩ : ∃ K1, H.new (.cells (zeros [.int .u8 0] n3) 5 .ex) = K1 := ⟨_, rfl⟩
  have hx : HExt H K1 := by rw [← hK1]; exact (HExt.refl H).new _
  have hob : K1.ob H.nx = .cells (zeros [.int .u8 0] n3) 5 .ex := by rw [← hK1]; exact new_get.trans (if_pos rfl)
  have hnx : K1.nx = H.nx + 1 := by rw [← hK1]; rfl
  rw [hK1, by_src (SlAt.good (CInt.good _) hx h), appS_some, appV_r, hob, appR_c]
  by_cases h0 : src.length = 0
  · have : src = [] := List.length_eq_zero_iff.1 h0
    subst this
    rw [if_pos (show ([] : List UInt8).length = 0 from rfl)]
    exact ⟨H.nx, n3, _, .ex, K1, rfl, hob, rfl, rfl, by simp, Nat.le_refl _, by omega, hx⟩
  · rw [if_neg h0, if_pos ⟨rfl, rfl, rfl, by simp, byC_cell, by omega, by rw [maxLen_eq]; omega⟩]
    have : (Kd.ex.isEx && decide (n3 < 0 + src.length)) = false := by rw [decide_eq_false (by omega)]; rfl
    rw [this, appH_f, Nat.zero_add]
    refine ⟨K1.nx, _, _, .gr, _, rfl, new_get.trans (if_pos rfl), rfl, ?_, ?_, by omega, by simp only [new_nx, set_nx]; omega, hx.dead (Nat.le_refl _) _⟩
    · simp only [Nat.zero_mul, List.take_zero, List.nil_append]
      exact List.take_of_length_le (by rw [byC_len]; exact Nat.le_refl _)
    · simp only [Nat.zero_mul, List.take_zero, List.nil_append, byC_len, Nat.le_refl]
theorem room2 {H K3 : CH} {src : List UInt8} (hm : src.length ≤ 140737488351232) {l1 c1 : Nat} {cs : List Value} {kd : Kd} (hob : K3.ob l1 = .cells cs 5 kd) (hro : kd.isRo = false) (ht : cs.take src.length = byC src) (hl : src.length ≤ cs.length) (h1 : H.nx ≤ l1) (hx : HExt H K3) :
    ∃ R K4, appV 5 1 1 (.slice (some ⟨l1, 0, none⟩) src.length c1) [.int .u8 33, .int .u8 33] 2 K3 = some (.slice (some ⟨R, 0, none⟩) (src.length + 2) (src.length + 2), K4) ∧ K4.ob R = .cells (byC src ++ [.int .u8 33, .int .u8 33]) 5 .gr ∧ H.nx ≤ R ∧ R < K4.nx ∧ HExt H K4 := by
  rw [appV_r, hob, appR_c, if_neg (by decide), if_pos ⟨rfl, rfl, hro, by omega, by decide, by omega, by rw [maxLen_eq]; omega⟩]
  rw [Nat.mul_one, ht]
  have h3 := hx.nx
  cases (kd.isEx && decide (c1 < src.length + 2)) with
  | true => exact ⟨K3.nx, _, rfl, by rw [appH_t]; exact new_get.trans (if_pos rfl), h3, by rw [appH_t]; simp only [new_nx]; omega, by rw [appH_t]; exact hx.new _⟩
  | false => exact ⟨K3.nx, _, rfl, by rw [appH_f]; exact new_get.trans (if_pos rfl), h3, by rw [appH_f]; simp only [new_nx, set_nx]; omega, by rw [appH_f]; exact hx.dead h1 _⟩
theorem room_sl {K : CH} {R : Nat} {src : List UInt8} (hm : src.length ≤ 140737488351232) (hob : K.ob R = .cells (byC src ++ [.int .u8 33, .int .u8 33]) 5 .gr) (hR : R < K.nx) : SlAt 1 (CInt .u8) K (some ⟨R, 0, none⟩) (src.length + 2) (u8i src) := by
  refine .inr ⟨R, 0, _, _, _, rfl, hR, by simp [u8i], by rw [maxLen_eq]; omega, hob, by simp [u8i, byC], fun i hi => ?_⟩
  simp only [u8i, List.length_map] at hi
  refine ⟨?_, ?_⟩
  · simp only [Nat.zero_add, Nat.mul_one, u8i, List.getElem_map]
    rw [List.drop_eq_getElem_cons (by simp [byC]; omega)]
    simp only [List.take_succ_cons, List.take_zero]
    rw [List.getElem_append_left (by simp [byC]; omega)]
    simp [byC]
  · simp only [u8i, List.getElem_map]
    have := src[i].toNat_lt
    have := src[i].toNat_lt
    simp [Lit.wf, IntKind.min, IntKind.max, IntKind.signed, IntKind.bits]; omega
theorem room_ok {K : CH} {R m c : Nat} {cs : List Value} (hob : K.ob R = .cells cs 5 .gr) : okSl K 5 (.slice (some ⟨R, 0, none⟩) m c) = true := by
  simp only [okSl, hob, beq_self_eq_true]
theorem room_slc {R n : Nat} : sliceV 1 (.slice (some ⟨R, 0, none⟩) (n + 2) (n + 2)) ((0 : Nat) : Int) (n : Int) ((n + 2 : Nat) : Int) false = some (.slice (some ⟨R, 0, none⟩) n (n + 2)) := by
  simp only [sliceV]
  rw [if_pos (by omega), if_neg (by omega)]
  congr 2
/-- Tokens of new memory. -/
def TkN (A K : CH) (v : Value) (ts : List Tok) : Prop := TkAt K v ts ∧ ∀ b o n c, v = .slice (some ⟨b, o, none⟩) n c → A.nx ≤ b ∧ b < K.nx
theorem Grw.tkn {A K : CH} {v : Value} {ts : List Tok} (h : Grw A 33 3 tokC K v ts) : TkN A K v ts := by
  refine ⟨h.tk, ?_⟩
  rcases h with ⟨rfl, rfl⟩ | ⟨b, kd, rfl, h1, h2, h3, h4⟩
  · intro b o n c e; cases e
  · intro b' o n c e; cases e; exact ⟨h1, h2⟩
theorem tokC_cell {ts : List Tok} : (ts.flatMap tokC).all isCell = true := by
  rw [List.all_eq_true]
  intro x hx
  obtain ⟨y, _, hy⟩ := List.mem_flatMap.1 hx
  exact List.all_eq_true.1 (tokC_ok y).2 x hy
theorem room3 {A K : CH} {v : Value} {ts : List Tok} (h : Grw A 33 3 tokC K v ts) (hl : ts.length ≤ 100000) :
    ∃ vw K2, appS (srcCells (K.new (.cells [] 33 .ex)) 3 v) 33 3 32 (.slice (some ⟨K.nx, 0, none⟩) 0 0) (K.new (.cells [] 33 .ex)) = some (vw, K2) ∧ TkN K K2 vw ts ∧ HExt K K2 := by
  obtain ⟨K1, hK1⟩ : ∃ K1, K.new (.cells [] 33 .ex) = K1 := ⟨_, rfl⟩
  have hx : HExt K K1 := by rw [← hK1]; exact (HExt.refl K).new _
  have hob : K1.ob K.nx = .cells [] 33 .ex := by rw [← hK1]; exact new_get.trans (if_pos rfl)
  have hnx : K1.nx = K.nx + 1 := by rw [← hK1]; rfl
  have hs : srcCells K1 3 v = some (ts.flatMap tokC, ts.length) := by
    rcases h with ⟨rfl, rfl⟩ | ⟨b, kd, rfl, h1, h2, h3, h4⟩
    · rfl
    · by_cases h0 : ts.length = 0
      · have : ts = [] := List.length_eq_zero_iff.1 h0
        subst this; rfl
      · have h3' := (hx.ob b h2).trans h3
        simp only [srcCells, if_neg h0, h3']
        rw [if_pos (by rw [tokLen]; omega), List.drop_zero, List.take_of_length_le (by rw [tokLen]; omega)]
  rw [hK1, hs, appS_some, appV_r, hob, appR_c]
  by_cases h0 : ts.length = 0
  · have : ts = [] := List.length_eq_zero_iff.1 h0
    subst this
    rw [if_pos (show ([] : List Tok).length = 0 from rfl)]
    refine ⟨_, K1, rfl, ⟨.inl ⟨rfl, _, rfl⟩, ?_⟩, hx⟩
    intro b o n c e; cases e
    exact ⟨Nat.le_refl _, by omega⟩
  · rw [if_neg h0, if_pos ⟨rfl, rfl, rfl, by simp, tokC_cell, by omega, by rw [maxLen_eq]; omega⟩]
    have : (Kd.ex.isEx && decide (0 < 0 + ts.length)) = true := by rw [decide_eq_true (by omega)]; rfl
    rw [this, appH_t, Nat.zero_add]
    refine ⟨_, _, rfl, ⟨.inr ⟨K1.nx, .gr, _, _, rfl, new_get.trans (if_pos rfl), ?_⟩, ?_⟩, hx.new _⟩
    · simp only [Nat.zero_mul, List.take_zero, List.nil_append]
      exact List.take_of_length_le (by rw [tokLen]; omega)
    · intro b o n c e; cases e
      exact ⟨by omega, by simp only [new_nx]; omega⟩
theorem ap_get {l : List Value} {i j : Nat} {v : Value} (h : i < l.length) : (setCells l i [v])[j]? = if j = i then some v else l[j]? := by
  have : setCells l i [v] = l.set i v := by
    unfold setCells
    rw [List.set_eq_take_append_cons_drop, if_pos h]; simp
  rw [this, List.getElem?_set]
  by_cases e : j = i
  · subst e; simp [h]
  · rw [if_neg (fun e' => e e'.symm), if_neg e]
theorem ap_len {l : List Value} {i : Nat} {v : Value} (h : i < l.length) : (setCells l i [v]).length = l.length := by
  unfold setCells; simp; omega
theorem TkAt.mv {K K' : CH} {v : Value} {ts : List Tok} (h : TkAt K v ts) (hk : ∀ b o n c, v = .slice (some ⟨b, o, none⟩) n c → K'.ob b = K.ob b) : TkAt K' v ts := by
  rcases h with h | ⟨b, kd, c, os, rfl, h1, h2⟩
  · exact .inl h
  · exact .inr ⟨b, kd, c, os, rfl, (hk _ _ _ _ rfl).trans h1, h2⟩
theorem room4 {K : CH} {v : Value} {n : Nat} (hn : n ≤ 100000) {xs : List Value} (hxs : xs.all isCell = true) (h : (v = .slice none 0 0 ∧ n = 0) ∨ ∃ b os kd, v = .slice (some ⟨b, 0, none⟩) n n ∧ K.ob b = .cells os 33 kd ∧ kd.isRo = false ∧ n * 3 ≤ os.length ∧ b < K.nx) :
    ∃ g K', appV 33 3 32 v xs 2 K = some (.slice g (n + 2) (n + 2), K') ∧ ∀ l, l < K.nx → (∀ b o n c, v = .slice (some ⟨b, o, none⟩) n c → l ≠ b) → K'.ob l = K.ob l := by
  rcases h with ⟨rfl, rfl⟩ | ⟨b, os, kd, rfl, h1, h2, h3, h4⟩
  · rw [appV_n, if_neg (by decide), if_pos ⟨hxs, by decide, by rw [maxLen_eq]; omega⟩]
    refine ⟨_, _, rfl, fun l hl _ => by rw [new_get, if_neg (by omega)]⟩
  · rw [appV_r, h1, appR_c, if_neg (by decide), if_pos ⟨rfl, rfl, h2, by omega, hxs, by omega, by rw [maxLen_eq]; omega⟩]
    refine ⟨_, _, rfl, fun l hl hb => ?_⟩
    have hlb := hb _ _ _ _ rfl
    cases (kd.isEx && decide (n < n + 2)) with
    | true => rw [appH_t, new_get, if_neg (by omega)]
    | false => rw [appH_f, new_get, set_nx, if_neg (by omega), set_get, if_neg hlb]
def six : List Value := [.int .i64 98, .int .i64 0, .string ⟨⟨[]⟩⟩, .int .i64 98, .int .i64 0, .string ⟨⟨[]⟩⟩]
theorem zz6 : setCells (setCells (zeros [.int .i64 0, .int .i64 0, .string ⟨⟨[]⟩⟩] (2 * 3)) (0 * 3) [.int .i64 98, .int .i64 0, .string ⟨⟨[]⟩⟩]) 3 [.int .i64 98, .int .i64 0, .string ⟨⟨[]⟩⟩] = [.int .i64 98, .int .i64 0, .string ⟨⟨[]⟩⟩, .int .i64 98, .int .i64 0, .string ⟨⟨[]⟩⟩] := rfl
theorem tt6 : List.take (2 * 3) [Value.int .i64 98, .int .i64 0, .string ⟨⟨[]⟩⟩, .int .i64 98, .int .i64 0, .string ⟨⟨[]⟩⟩] = [.int .i64 98, .int .i64 0, .string ⟨⟨[]⟩⟩, .int .i64 98, .int .i64 0, .string ⟨⟨[]⟩⟩] := rfl
def AwJ (K K9 : CH) (b n m : Nat) (v : Value) : Prop := ∃ (i : Nat) (os : List Value) (kd : Kd), m = n - i ∧ i ≤ n ∧ v = .int .i64 (i : Nat) ∧ K.ob b = .cells os 33 kd ∧ kd.isRo = false ∧ os.length = n * 3 ∧ K.nx = K9.nx ∧ ∀ l, l ≠ b → K.ob l = K9.ob l
theorem set3_len {l : List Value} {i n : Nat} {a b c : Value} (h : i < n) (hl : l.length = n * 3) : (setCells l (i * 3) [a, b, c]).length = n * 3 := by
  rw [setCells_len (by simp; omega)]; exact hl
def RmJ (K K8 : CH) (R : Nat) (src : List UInt8) (n : Nat) (v : Value) : Prop := ∃ (i : Nat) (os : List Value), n = src.length - i ∧ i ≤ src.length ∧ v = .int .i64 (i : Nat) ∧ K.ob R = .cells os 5 .gr ∧ os.length = src.length + 2 ∧ (∀ j, i ≤ j → os[j]? = (byC src ++ [.int .u8 33, .int .u8 33])[j]?) ∧ K.nx = K8.nx ∧ ∀ l, l ≠ R → K.ob l = K8.ob l
set_option maxHeartbeats 4000000 in
theorem keeps_wp (H : CH) {q q2 : Option Addr} {c c2 : Nat} {src oth : List UInt8} (h : SlAt 1 (CInt .u8) H q c (u8i src)) (h2 : SlAt 1 (CInt .u8) H q2 c2 (u8i oth)) (hm : src.length ≤ 140737488351232) (hm2 : oth.length ≤ 140737488351232) :
    WpF (tblG Try.prog LG GG) 8 [.slice q src.length c, .slice q2 oth.length c2] H fun v _ => v = .bool true := by
  refine wpF_rG (by rfl) (by kernel_rfl) ?_; (conv in (rF _ _).body => reduce); (conv in (rF _ _).res => reduce)
  obtain ⟨l1, c1, cs, kd, K2, ha1, ha2, ha3, ha4, ha5, ha6, ha7, ha8⟩ := room1 h hm
  have hn1 : ¬ (l1 = K2.nx) := by omega
  repeat' (first | (simp (disch := first | omega | (decide +kernel) | (repeat first | assumption | exact HExt.refl _ | refine HExt.set ?_ (by first | omega | (simp only [new_nx, set_nx]; omega)) _ | refine HExt.new ?_ _)) only [↓r_seq, ↓r_block, ↓seqK_n, ↓seqK_r, ↓seqK_e, ↓blockK_n, ↓blockK_r, ↓blockK_e, ↓loopI_n, ↓loopI_r, ↓loopI_e, ↓funK_n, ↓funK_r, ↓r_reg, ↓r_drw, ↓r_cond, ↓condK_t, ↓condK_f, ↓i_cons, ↓eitemK, ↓e_nil, ↓e_cons, ↓e_grd, ↓egrd_tt, ↓egrd_ff, ↓egrd_tf, ↓egrd_ft, ↓egrd_s, ↓drwK, ↓r_drw2, ↓chk_nil, ↓chk_n, ↓chk_g, agL, agV_tt, agV_ff, agV_tf, agV_ft, agV_s, agE, accW_t, accW_f, isW, ↓i_grd, ↓grd_tt, ↓grd_ff, ↓grd_tf, ↓grd_ft, ↓grd_s, ↓itemK, ↓o_p, ↓o_l, ↓o_a, ↓o_w, ↓o_call, ↓o_callv, ↓callvK_f, ↓callvK_y, ↓r_range, ↓rangeV_f, ↓putF_get, ↓putF_none, ↓evF_t, ↓evF_c, ↓evF_f, new_nx, set_nx, new_get, set_get, optV_some, optW_some, optA_some, finK_some, ↓wpI_nil, ↓wpR_skip, ↓wpR_exit, ↓wpR_ret, getD_zero, getD_succ, b_add, b_sub, b_mul, b_quo, b_rem, b_eql, b_neq, b_lss, b_leq, b_gtr, b_geq, u_not, w_i64, w_u64, w_u8, t_div, t_mod, pop, lop, aop, wop, resL, resV, tupleV, akV, isVal, isCell, Value.cells, List.map_cons, List.map_nil, Bool.not_true, Bool.not_false, Option.map_some, ↓reduceIte, Nat.reduceEqDiff, Nat.reduceAdd, Int.reduceOfNat, Int.reduceNegSucc, decide_true, decide_false, reduceCtorEq, List.getElem?_cons_zero, List.getElem?_cons_succ, List.length_cons, List.length_nil, setc_0, setc_s, srcR_c, src_n, src_v, src_r, src_s, bnd, lenV, capV, Option.isSome_none, Option.isNone_none, Option.isSome_some, Option.isNone_some, Bool.or_false, Bool.or_true, Bool.true_or, Bool.false_or, List.take_succ_cons, List.take_zero, List.drop_succ_cons, List.drop_zero, List.cons_append, List.nil_append, List.append_nil, List.take_nil, List.drop_nil, List.all_cons, List.all_nil, Bool.and_true, Bool.true_and, Kd.isRo, List.size_toArray, List.getElem?_toArray, List.toList_toArray, bldV, Nat.reduceLeDiff, Nat.le_refl, u_neg, b_or0, Int.reduceMul, Int.reduceAdd, Int.reduceSub, Int.zero_mul, Int.zero_add, Int.add_zero, b_and3, b_and8, b_and24, b_shr2, b_shrs2, b_shr8, b_shr32, b_shr56, b_shl2, b_shl8, b_shl32, toNat_add1, toNat_add2, toNat_addn, toNat_add2n, Int.reduceToNat, maxLen_eq, zeros_one, zeros_two, zeros_three, take_mapl, List.length_map, List.map_append, List.length_append, beq_self_eq_true, beq_true, beq_false, Bool.false_xor, Bool.true_xor, Bool.xor_false, Bool.xor_true, dec_t, dec_f, ↓w_app, appS_some, appV_n, appV_v, appR_c, appH_t, appH_f, Kd.isEx, Bool.false_and, partV, if_pos, if_neg, Nat.mul_one, Nat.one_mul, Nat.zero_add, Nat.add_zero, Int.toNat_natCast, true_and, and_true, knownG_iff, ha1, src_s, src_v, src_n, appS_some]) | (with_reducible first | refine condK_dec (fun _ => ?_) fun _ => ?_ | refine grd_dec (fun _ => ?_) fun _ => ?_ | refine egrd_dec (fun _ => ?_) fun _ => ?_))
  obtain ⟨R, K4, hb1, hb2, hb3, hb4, hb5⟩ := room2 (H := H) (K3 := K2.new (.cells [.int .u8 33, .int .u8 33] 5 .ex)) (src := src) hm (c1 := c1) (by rw [new_get, if_neg hn1]; exact ha2) ha3 ha4 ha5 ha6 (ha8.new _)
  have hsl := @room_slc R src.length
  have hok4 := @room_ok K4 R (src.length + 2) (src.length + 2) _ hb2
  repeat' (first | (simp (disch := first | omega | (decide +kernel) | (repeat first | assumption | exact HExt.refl _ | refine HExt.set ?_ (by first | omega | (simp only [new_nx, set_nx]; omega)) _ | refine HExt.new ?_ _)) only [↓r_seq, ↓r_block, ↓seqK_n, ↓seqK_r, ↓seqK_e, ↓blockK_n, ↓blockK_r, ↓blockK_e, ↓loopI_n, ↓loopI_r, ↓loopI_e, ↓funK_n, ↓funK_r, ↓r_reg, ↓r_drw, ↓r_cond, ↓condK_t, ↓condK_f, ↓i_cons, ↓eitemK, ↓e_nil, ↓e_cons, ↓e_grd, ↓egrd_tt, ↓egrd_ff, ↓egrd_tf, ↓egrd_ft, ↓egrd_s, ↓drwK, ↓r_drw2, ↓chk_nil, ↓chk_n, ↓chk_g, agL, agV_tt, agV_ff, agV_tf, agV_ft, agV_s, agE, accW_t, accW_f, isW, ↓i_grd, ↓grd_tt, ↓grd_ff, ↓grd_tf, ↓grd_ft, ↓grd_s, ↓itemK, ↓o_p, ↓o_l, ↓o_a, ↓o_w, ↓o_call, ↓o_callv, ↓callvK_f, ↓callvK_y, ↓r_range, ↓rangeV_f, ↓putF_get, ↓putF_none, ↓evF_t, ↓evF_c, ↓evF_f, new_nx, set_nx, new_get, set_get, optV_some, optW_some, optA_some, finK_some, ↓wpI_nil, ↓wpR_skip, ↓wpR_exit, ↓wpR_ret, getD_zero, getD_succ, b_add, b_sub, b_mul, b_quo, b_rem, b_eql, b_neq, b_lss, b_leq, b_gtr, b_geq, u_not, w_i64, w_u64, w_u8, t_div, t_mod, pop, lop, aop, wop, resL, resV, tupleV, akV, isVal, isCell, Value.cells, List.map_cons, List.map_nil, Bool.not_true, Bool.not_false, Option.map_some, ↓reduceIte, Nat.reduceEqDiff, Nat.reduceAdd, Int.reduceOfNat, Int.reduceNegSucc, decide_true, decide_false, reduceCtorEq, List.getElem?_cons_zero, List.getElem?_cons_succ, List.length_cons, List.length_nil, setc_0, setc_s, srcR_c, src_n, src_v, src_r, src_s, bnd, lenV, capV, Option.isSome_none, Option.isNone_none, Option.isSome_some, Option.isNone_some, Bool.or_false, Bool.or_true, Bool.true_or, Bool.false_or, List.take_succ_cons, List.take_zero, List.drop_succ_cons, List.drop_zero, List.cons_append, List.nil_append, List.append_nil, List.take_nil, List.drop_nil, List.all_cons, List.all_nil, Bool.and_true, Bool.true_and, Kd.isRo, List.size_toArray, List.getElem?_toArray, List.toList_toArray, bldV, Nat.reduceLeDiff, Nat.le_refl, u_neg, b_or0, Int.reduceMul, Int.reduceAdd, Int.reduceSub, Int.zero_mul, Int.zero_add, Int.add_zero, b_and3, b_and8, b_and24, b_shr2, b_shrs2, b_shr8, b_shr32, b_shr56, b_shl2, b_shl8, b_shl32, toNat_add1, toNat_add2, toNat_addn, toNat_add2n, Int.reduceToNat, maxLen_eq, zeros_one, zeros_two, zeros_three, take_mapl, List.length_map, List.map_append, List.length_append, beq_self_eq_true, beq_true, beq_false, Bool.false_xor, Bool.true_xor, Bool.xor_false, Bool.xor_true, dec_t, dec_f, ↓w_app, appS_some, appV_n, appV_v, appR_c, appH_t, appH_f, Kd.isEx, Bool.false_and, partV, if_pos, if_neg, Nat.mul_one, Nat.one_mul, Nat.zero_add, Nat.add_zero, Int.toNat_natCast, true_and, and_true, hb1, hok4, hsl]) | (with_reducible first | refine condK_dec (fun _ => ?_) fun _ => ?_ | refine grd_dec (fun _ => ?_) fun _ => ?_ | refine egrd_dec (fun _ => ?_) fun _ => ?_))
  refine (lexl_wp K4 (room_sl hm hb2 hb4)).mono fun v K5 ⟨hx5, p4, p5, va, hv, hga⟩ => ?_
  subst hv
  obtain ⟨vw, K6, hw1, hw2, hw3⟩ := room3 hga lexL_len
  have hz0 : zeros [.int .i64 0, .int .i64 0, .string ⟨⟨[]⟩⟩] (0 * 3) = [] := by simp [zeros]
  repeat' (first | (simp (disch := first | omega | (decide +kernel) | (repeat first | assumption | exact HExt.refl _ | refine HExt.set ?_ (by first | omega | (simp only [new_nx, set_nx]; omega)) _ | refine HExt.new ?_ _)) only [↓r_seq, ↓r_block, ↓seqK_n, ↓seqK_r, ↓seqK_e, ↓blockK_n, ↓blockK_r, ↓blockK_e, ↓loopI_n, ↓loopI_r, ↓loopI_e, ↓funK_n, ↓funK_r, ↓r_reg, ↓r_drw, ↓r_cond, ↓condK_t, ↓condK_f, ↓i_cons, ↓eitemK, ↓e_nil, ↓e_cons, ↓e_grd, ↓egrd_tt, ↓egrd_ff, ↓egrd_tf, ↓egrd_ft, ↓egrd_s, ↓drwK, ↓r_drw2, ↓chk_nil, ↓chk_n, ↓chk_g, agL, agV_tt, agV_ff, agV_tf, agV_ft, agV_s, agE, accW_t, accW_f, isW, ↓i_grd, ↓grd_tt, ↓grd_ff, ↓grd_tf, ↓grd_ft, ↓grd_s, ↓itemK, ↓o_p, ↓o_l, ↓o_a, ↓o_w, ↓o_call, ↓o_callv, ↓callvK_f, ↓callvK_y, ↓r_range, ↓rangeV_f, ↓putF_get, ↓putF_none, ↓evF_t, ↓evF_c, ↓evF_f, new_nx, set_nx, new_get, set_get, optV_some, optW_some, optA_some, finK_some, ↓wpI_nil, ↓wpR_skip, ↓wpR_exit, ↓wpR_ret, getD_zero, getD_succ, b_add, b_sub, b_mul, b_quo, b_rem, b_eql, b_neq, b_lss, b_leq, b_gtr, b_geq, u_not, w_i64, w_u64, w_u8, t_div, t_mod, pop, lop, aop, wop, resL, resV, tupleV, akV, isVal, isCell, Value.cells, List.map_cons, List.map_nil, Bool.not_true, Bool.not_false, Option.map_some, ↓reduceIte, Nat.reduceEqDiff, Nat.reduceAdd, Int.reduceOfNat, Int.reduceNegSucc, decide_true, decide_false, reduceCtorEq, List.getElem?_cons_zero, List.getElem?_cons_succ, List.length_cons, List.length_nil, setc_0, setc_s, srcR_c, src_n, src_v, src_r, src_s, bnd, lenV, capV, Option.isSome_none, Option.isNone_none, Option.isSome_some, Option.isNone_some, Bool.or_false, Bool.or_true, Bool.true_or, Bool.false_or, List.take_succ_cons, List.take_zero, List.drop_succ_cons, List.drop_zero, List.cons_append, List.nil_append, List.append_nil, List.take_nil, List.drop_nil, List.all_cons, List.all_nil, Bool.and_true, Bool.true_and, Kd.isRo, List.size_toArray, List.getElem?_toArray, List.toList_toArray, bldV, Nat.reduceLeDiff, Nat.le_refl, u_neg, b_or0, Int.reduceMul, Int.reduceAdd, Int.reduceSub, Int.zero_mul, Int.zero_add, Int.add_zero, b_and3, b_and8, b_and24, b_shr2, b_shrs2, b_shr8, b_shr32, b_shr56, b_shl2, b_shl8, b_shl32, toNat_add1, toNat_add2, toNat_addn, toNat_add2n, Int.reduceToNat, maxLen_eq, zeros_one, zeros_two, zeros_three, take_mapl, List.length_map, List.map_append, List.length_append, beq_self_eq_true, beq_true, beq_false, Bool.false_xor, Bool.true_xor, Bool.xor_false, Bool.xor_true, dec_t, dec_f, ↓w_app, appS_some, appV_n, appV_v, appR_c, appH_t, appH_f, Kd.isEx, Bool.false_and, partV, if_pos, if_neg, Nat.mul_one, Nat.one_mul, Nat.zero_add, Nat.add_zero, Int.toNat_natCast, true_and, and_true, hz0, hw1]) | (with_reducible first | refine condK_dec (fun _ => ?_) fun _ => ?_ | refine grd_dec (fun _ => ?_) fun _ => ?_ | refine egrd_dec (fun _ => ?_) fun _ => ?_))
  have hxH6 : HExt H K6 := hb5.trans (hx5.trans hw3)
  refine (lexl_wp K6 (SlAt.good (CInt.good _) hxH6 h2)).mono fun v K7 ⟨hx7, p4', p5', vo, hv, hgo⟩ => ?_
  subst hv
  have hx47 : HExt K4 K7 := hx5.trans (hw3.trans hx7)
  have hb7 := (hx47.ob R hb4).trans hb2
  have hok7 := @room_ok K7 R (src.length + 2) (src.length + 2) _ hb7
  repeat' (first | (simp (disch := first | omega | (decide +kernel) | (repeat first | assumption | exact HExt.refl _ | refine HExt.set ?_ (by first | omega | (simp only [new_nx, set_nx]; omega)) _ | refine HExt.new ?_ _)) only [↓r_seq, ↓r_block, ↓seqK_n, ↓seqK_r, ↓seqK_e, ↓blockK_n, ↓blockK_r, ↓blockK_e, ↓loopI_n, ↓loopI_r, ↓loopI_e, ↓funK_n, ↓funK_r, ↓r_reg, ↓r_drw, ↓r_cond, ↓condK_t, ↓condK_f, ↓i_cons, ↓eitemK, ↓e_nil, ↓e_cons, ↓e_grd, ↓egrd_tt, ↓egrd_ff, ↓egrd_tf, ↓egrd_ft, ↓egrd_s, ↓drwK, ↓r_drw2, ↓chk_nil, ↓chk_n, ↓chk_g, agL, agV_tt, agV_ff, agV_tf, agV_ft, agV_s, agE, accW_t, accW_f, isW, ↓i_grd, ↓grd_tt, ↓grd_ff, ↓grd_tf, ↓grd_ft, ↓grd_s, ↓itemK, ↓o_p, ↓o_l, ↓o_a, ↓o_w, ↓o_call, ↓o_callv, ↓callvK_f, ↓callvK_y, ↓r_range, ↓rangeV_f, ↓putF_get, ↓putF_none, ↓evF_t, ↓evF_c, ↓evF_f, new_nx, set_nx, new_get, set_get, optV_some, optW_some, optA_some, finK_some, ↓wpI_nil, ↓wpR_skip, ↓wpR_exit, ↓wpR_ret, getD_zero, getD_succ, b_add, b_sub, b_mul, b_quo, b_rem, b_eql, b_neq, b_lss, b_leq, b_gtr, b_geq, u_not, w_i64, w_u64, w_u8, t_div, t_mod, pop, lop, aop, wop, resL, resV, tupleV, akV, isVal, isCell, Value.cells, List.map_cons, List.map_nil, Bool.not_true, Bool.not_false, Option.map_some, ↓reduceIte, Nat.reduceEqDiff, Nat.reduceAdd, Int.reduceOfNat, Int.reduceNegSucc, decide_true, decide_false, reduceCtorEq, List.getElem?_cons_zero, List.getElem?_cons_succ, List.length_cons, List.length_nil, setc_0, setc_s, srcR_c, src_n, src_v, src_r, src_s, bnd, lenV, capV, Option.isSome_none, Option.isNone_none, Option.isSome_some, Option.isNone_some, Bool.or_false, Bool.or_true, Bool.true_or, Bool.false_or, List.take_succ_cons, List.take_zero, List.drop_succ_cons, List.drop_zero, List.cons_append, List.nil_append, List.append_nil, List.take_nil, List.drop_nil, List.all_cons, List.all_nil, Bool.and_true, Bool.true_and, Kd.isRo, List.size_toArray, List.getElem?_toArray, List.toList_toArray, bldV, Nat.reduceLeDiff, Nat.le_refl, u_neg, b_or0, Int.reduceMul, Int.reduceAdd, Int.reduceSub, Int.zero_mul, Int.zero_add, Int.add_zero, b_and3, b_and8, b_and24, b_shr2, b_shrs2, b_shr8, b_shr32, b_shr56, b_shl2, b_shl8, b_shl32, toNat_add1, toNat_add2, toNat_addn, toNat_add2n, Int.reduceToNat, maxLen_eq, zeros_one, zeros_two, zeros_three, take_mapl, List.length_map, List.map_append, List.length_append, beq_self_eq_true, beq_true, beq_false, Bool.false_xor, Bool.true_xor, Bool.xor_false, Bool.xor_true, dec_t, dec_f, ↓w_app, appS_some, appV_n, appV_v, appR_c, appH_t, appH_f, Kd.isEx, Bool.false_and, partV, if_pos, if_neg, Nat.mul_one, Nat.one_mul, Nat.zero_add, Nat.add_zero, Int.toNat_natCast, true_and, and_true, hok7, hsl]) | (with_reducible first | refine condK_dec (fun _ => ?_) fun _ => ?_ | refine grd_dec (fun _ => ?_) fun _ => ?_ | refine egrd_dec (fun _ => ?_) fun _ => ?_))
  refine (lexl_wp K7 (room_sl hm hb7 (Nat.lt_of_lt_of_le hb4 hx47.nx))).mono fun v K8 ⟨hx8, p4'', p5'', vb, hv, hgb⟩ => ?_
  subst hv
  have hx48 : HExt K4 K8 := hx47.trans hx8
  have hb8 := (hx48.ob R hb4).trans hb2
  repeat' (first | (simp (disch := first | omega | (decide +kernel) | (repeat first | assumption | exact HExt.refl _ | refine HExt.set ?_ (by first | omega | (simp only [new_nx, set_nx]; omega)) _ | refine HExt.new ?_ _)) only [↓r_seq, ↓r_block, ↓seqK_n, ↓seqK_r, ↓seqK_e, ↓blockK_n, ↓blockK_r, ↓blockK_e, ↓loopI_n, ↓loopI_r, ↓loopI_e, ↓funK_n, ↓funK_r, ↓r_reg, ↓r_drw, ↓r_cond, ↓condK_t, ↓condK_f, ↓i_cons, ↓eitemK, ↓e_nil, ↓e_cons, ↓e_grd, ↓egrd_tt, ↓egrd_ff, ↓egrd_tf, ↓egrd_ft, ↓egrd_s, ↓drwK, ↓r_drw2, ↓chk_nil, ↓chk_n, ↓chk_g, agL, agV_tt, agV_ff, agV_tf, agV_ft, agV_s, agE, accW_t, accW_f, isW, ↓i_grd, ↓grd_tt, ↓grd_ff, ↓grd_tf, ↓grd_ft, ↓grd_s, ↓itemK, ↓o_p, ↓o_l, ↓o_a, ↓o_w, ↓o_call, ↓o_callv, ↓callvK_f, ↓callvK_y, ↓r_range, ↓rangeV_f, ↓putF_get, ↓putF_none, ↓evF_t, ↓evF_c, ↓evF_f, new_nx, set_nx, new_get, set_get, optV_some, optW_some, optA_some, finK_some, ↓wpI_nil, ↓wpR_skip, ↓wpR_exit, ↓wpR_ret, getD_zero, getD_succ, b_add, b_sub, b_mul, b_quo, b_rem, b_eql, b_neq, b_lss, b_leq, b_gtr, b_geq, u_not, w_i64, w_u64, w_u8, t_div, t_mod, pop, lop, aop, wop, resL, resV, tupleV, akV, isVal, isCell, Value.cells, List.map_cons, List.map_nil, Bool.not_true, Bool.not_false, Option.map_some, ↓reduceIte, Nat.reduceEqDiff, Nat.reduceAdd, Int.reduceOfNat, Int.reduceNegSucc, decide_true, decide_false, reduceCtorEq, List.getElem?_cons_zero, List.getElem?_cons_succ, List.length_cons, List.length_nil, setc_0, setc_s, srcR_c, src_n, src_v, src_r, src_s, bnd, lenV, capV, Option.isSome_none, Option.isNone_none, Option.isSome_some, Option.isNone_some, Bool.or_false, Bool.or_true, Bool.true_or, Bool.false_or, List.take_succ_cons, List.take_zero, List.drop_succ_cons, List.drop_zero, List.cons_append, List.nil_append, List.append_nil, List.take_nil, List.drop_nil, List.all_cons, List.all_nil, Bool.and_true, Bool.true_and, Kd.isRo, List.size_toArray, List.getElem?_toArray, List.toList_toArray, bldV, Nat.reduceLeDiff, Nat.le_refl, u_neg, b_or0, Int.reduceMul, Int.reduceAdd, Int.reduceSub, Int.zero_mul, Int.zero_add, Int.add_zero, b_and3, b_and8, b_and24, b_shr2, b_shrs2, b_shr8, b_shr32, b_shr56, b_shl2, b_shl8, b_shl32, toNat_add1, toNat_add2, toNat_addn, toNat_add2n, Int.reduceToNat, maxLen_eq, zeros_one, zeros_two, zeros_three, take_mapl, List.length_map, List.map_append, List.length_append, beq_self_eq_true, beq_true, beq_false, Bool.false_xor, Bool.true_xor, Bool.xor_false, Bool.xor_true, dec_t, dec_f, ↓w_app, appS_some, appV_n, appV_v, appR_c, appH_t, appH_f, Kd.isEx, Bool.false_and, partV, if_pos, if_neg, Nat.mul_one, Nat.one_mul, Nat.zero_add, Nat.add_zero, Int.toNat_natCast, true_and, and_true, hz0]) | (with_reducible first | refine condK_dec (fun _ => ?_) fun _ => ?_ | refine grd_dec (fun _ => ?_) fun _ => ?_ | refine egrd_dec (fun _ => ?_) fun _ => ?_))
  have hxH8 : HExt H K8 := hb5.trans hx48
  refine loop_w (fun n fr K9 => RmJ K9 K8 R src n (fr 13)) (n := src.length) ⟨0, _, rfl, by omega, by (repeat' (first | (simp (disch := first | omega | (decide +kernel) | (repeat first | assumption | exact HExt.refl _ | refine HExt.set ?_ (by first | omega | (simp only [new_nx, set_nx]; omega)) _ | refine HExt.new ?_ _)) only [↓RD, RU, accW_t, accW_f, isW, ↓putF_get, ↓putF_none, ↓evF_t, ↓evF_c, ↓evF_f, new_nx, set_nx, new_get, set_get, getD_zero, getD_succ, u_not, pop, lop, aop, wop, resL, resV, tupleV, akV, isVal, isCell, Value.cells, ρ0, ρ1, ρ2, ρ3, ρ4, ↓reduceIte, Nat.reduceEqDiff, Nat.reduceAdd, Int.reduceOfNat, Int.reduceNegSucc, reduceCtorEq, ρ5, ρ6, ρ7, ρ8, srcR_c, src_n, src_v, src_s, bnd, lenV, capV, ρ9, ρ10, ρ11, ρ12, ρ13, ρ14, ρ15, ρ16, ρ17, ρ18, ρ19, ρ20, ρ21, ρ22, ρ23, ρ24, Kd.isRo, ρ25, ρ26, bldV, Nat.reduceLeDiff, Int.reduceMul, Int.reduceAdd, Int.reduceSub, Int.reduceToNat, maxLen_eq, zeros_one, appS_some, appV_n, appV_v, appH_t, appH_f, Kd.isEx, ρ27, partV, CH.set_set, lkV, lkR, isKey, mupV, nxtV, ρ28, ρ29]) | (with_reducible first | refine condK_dec (fun _ => ?_) fun _ => ?_ | refine grd_dec (fun _ => ?_) fun _ => ?_ | refine egrd_dec (fun _ => ?_) fun _ => ?_)); all_goals rfl), hb8, by simp [byC], fun j _ => rfl, rfl, fun _ _ => rfl⟩ ?_
  rintro n fr K9 ⟨i, os, rfl, hi, f13, r1, r2, r3, r4, r5⟩ hag
  have hR8 : R < K8.nx := Nat.lt_of_lt_of_le hb4 hx48.nx
  have hxH9 : HExt H K9 := ⟨by rw [r4]; exact hxH8.nx, fun l hl => (r5 l (by omega)).trans (hxH8.ob l hl)⟩
  by_cases hil : i < src.length
  · obtain ⟨l2, o2, os2, e2, kd2, rfl, hl2, hc2, hm2', hob2, hol2, hos2, hwf2⟩ := (SlAt.good (CInt.good _) hxH9 h).ints (by simp [u8i]; omega)
    have hg2 := hos2 i (by simpa [u8i] using hil)
    have hge : (u8i src).getD i 0 = (src[i].toNat : Int) := by simp [u8i, List.getD_eq_getElem?_getD, List.getElem?_map, List.getElem?_eq_getElem hil]
    rw [hge] at hg2
    have hgr : os[i]? = some (.int .u8 (src[i].toNat : Int)) := by
      rw [r3 i (Nat.le_refl _), List.getElem?_append_left (by rw [byC_len]; exact hil), byC, List.getElem?_map, List.getElem?_eq_getElem hil]; rfl
    repeat' (first | (simp (disch := first | omega | (decide +kernel) | (repeat first | assumption | exact HExt.refl _ | refine HExt.set ?_ (by first | omega | (simp only [new_nx, set_nx]; omega)) _ | refine HExt.new ?_ _)) only [↓RD, RU, accW_t, accW_f, isW, ↓putF_get, ↓putF_none, ↓evF_t, ↓evF_c, ↓evF_f, new_nx, set_nx, new_get, set_get, getD_zero, getD_succ, u_not, pop, lop, aop, wop, resL, resV, tupleV, akV, isVal, isCell, Value.cells, ρ0, ρ1, ρ2, ρ3, ρ4, ↓reduceIte, Nat.reduceEqDiff, Nat.reduceAdd, Int.reduceOfNat, Int.reduceNegSucc, reduceCtorEq, ρ5, ρ6, ρ7, ρ8, srcR_c, src_n, src_v, src_s, bnd, lenV, capV, ρ9, ρ10, ρ11, ρ12, ρ13, ρ14, ρ15, ρ16, ρ17, ρ18, ρ19, ρ20, ρ21, ρ22, ρ23, ρ24, Kd.isRo, ρ25, ρ26, bldV, Nat.reduceLeDiff, Int.reduceMul, Int.reduceAdd, Int.reduceSub, Int.reduceToNat, maxLen_eq, zeros_one, appS_some, appV_n, appV_v, appH_t, appH_f, Kd.isEx, ρ27, partV, CH.set_set, lkV, lkR, isKey, mupV, nxtV, ρ28, ρ29, hag, f13, r1, hob2, hg2, hgr]) | (with_reducible first | refine condK_dec (fun _ => ?_) fun _ => ?_ | refine grd_dec (fun _ => ?_) fun _ => ?_ | refine egrd_dec (fun _ => ?_) fun _ => ?_))
    all_goals
      refine ⟨src.length - (i + 1), by omega, i + 1, setCells os i [.int .u8 35], rfl, by omega, rfl, set_get.trans (if_pos rfl), by rw [ap_len (by omega)]; exact r2, fun j hj => by rw [ap_get (by omega), if_neg (by omega)]; exact r3 j (by omega), r4, fun l hl => by rw [set_get, if_neg hl]; exact r5 l hl⟩
  · have h33 : os[src.length]? = some (.int .u8 33) := by
      rw [r3 _ (by omega), List.getElem?_append_right (by rw [byC_len]; exact Nat.le_refl _), byC_len, Nat.sub_self]; rfl
    have h34 : os[src.length + 1]? = some (.int .u8 33) := by
      rw [r3 _ (by omega), List.getElem?_append_right (by rw [byC_len]; omega), byC_len, show src.length + 1 - src.length = 1 by omega]; rfl
    have hna := hga.tkn
    have hnw := hw2
    have hnb := hgb.tkn
    have hx58 : HExt K5 K8 := hw3.trans (hx7.trans hx8)
    have hx68 : HExt K6 K8 := hx7.trans hx8
    have ta : TkAt K9 va (lexL src) := hna.1.mv fun b o n c e => by
      have := hna.2 b o n c e
      rw [r5 b (by omega)]; exact hx58.ob b this.2
    have tw : TkAt K9 vw (lexL src) := hnw.1.mv fun b o n c e => by
      have := hnw.2 b o n c e
      have := hx5.nx
      rw [r5 b (by omega)]; exact hx68.ob b (by omega)
    have tb : TkAt K9 vb (lexL src) := hnb.1.mv fun b o n c e => by
      have := hnb.2 b o n c e
      have := hx47.nx
      rw [r5 b (by omega)]
    have hs1 : ∀ Q, WpF (tblG Try.prog LG GG) 12 [va, vw] K9 Q ↔ Q (.bool true) K9 := fun Q => wpF_iff (same_wp K9 ta tw lexL_len)
    have hs2 : ∀ Q, WpF (tblG Try.prog LG GG) 12 [vb, vw] K9 Q ↔ Q (.bool true) K9 := fun Q => wpF_iff (same_wp K9 tb tw lexL_len)
    repeat' (first | (simp (disch := first | omega | (decide +kernel) | (repeat first | assumption | exact HExt.refl _ | refine HExt.set ?_ (by first | omega | (simp only [new_nx, set_nx]; omega)) _ | refine HExt.new ?_ _)) only [↓RD, RU, accW_t, accW_f, isW, ↓putF_get, ↓putF_none, ↓evF_t, ↓evF_c, ↓evF_f, new_nx, set_nx, new_get, set_get, getD_zero, getD_succ, u_not, pop, lop, aop, wop, resL, resV, tupleV, akV, isVal, isCell, Value.cells, ρ0, ρ1, ρ2, ρ3, ρ4, ↓reduceIte, Nat.reduceEqDiff, Nat.reduceAdd, Int.reduceOfNat, Int.reduceNegSucc, reduceCtorEq, ρ5, ρ6, ρ7, ρ8, srcR_c, src_n, src_v, src_s, bnd, lenV, capV, ρ9, ρ10, ρ11, ρ12, ρ13, ρ14, ρ15, ρ16, ρ17, ρ18, ρ19, ρ20, ρ21, ρ22, ρ23, ρ24, Kd.isRo, ρ25, ρ26, bldV, Nat.reduceLeDiff, Int.reduceMul, Int.reduceAdd, Int.reduceSub, Int.reduceToNat, maxLen_eq, zeros_one, appS_some, appV_n, appV_v, appH_t, appH_f, Kd.isEx, ρ27, partV, CH.set_set, lkV, lkR, isKey, mupV, nxtV, ρ28, ρ29, hag, f13, r1, h33, h34, hs1, hs2]) | (with_reducible first | refine condK_dec (fun _ => ?_) fun _ => ?_ | refine grd_dec (fun _ => ?_) fun _ => ?_ | refine egrd_dec (fun _ => ?_) fun _ => ?_))
    have hnk9 : K8.nx ≤ K9.nx := by omega
    have hxb : ∀ b o n c, vb = .slice (some ⟨b, o, none⟩) n c → K7.nx ≤ b ∧ b < K9.nx := fun b o n c e => by
      have := hnb.2 b o n c e; omega
    have hxw : ∀ b o n c, vw = .slice (some ⟨b, o, none⟩) n c → K5.nx ≤ b ∧ b < K9.nx ∧ b < K7.nx := fun b o n c e => by
      have := hnw.2 b o n c e
      have := hx68.nx
      have := hx7.nx
      omega
    have hll := @lexL_len src
    have hz6 := zz6
    have ht6 := tt6
    rcases hga with ⟨e1, e2⟩ | ⟨b, kd, e2, g1, g2, g3, g4⟩
    · subst e2
      refine loop_w (fun n fr K => fr 14 = .int .i64 0 ∧ K = K9) (n := 0) ⟨by (repeat' (first | (simp (disch := first | omega | (decide +kernel) | (repeat first | assumption | exact HExt.refl _ | refine HExt.set ?_ (by first | omega | (simp only [new_nx, set_nx]; omega)) _ | refine HExt.new ?_ _)) only [↓RD, RU, accW_t, accW_f, isW, ↓putF_get, ↓putF_none, ↓evF_t, ↓evF_c, ↓evF_f, new_nx, set_nx, new_get, set_get, getD_zero, getD_succ, u_not, pop, lop, aop, wop, resL, resV, tupleV, akV, isVal, isCell, Value.cells, ρ0, ρ1, ρ2, ρ3, ρ4, ↓reduceIte, Nat.reduceEqDiff, Nat.reduceAdd, Int.reduceOfNat, Int.reduceNegSucc, reduceCtorEq, ρ5, ρ6, ρ7, ρ8, srcR_c, src_n, src_v, src_s, bnd, lenV, capV, ρ9, ρ10, ρ11, ρ12, ρ13, ρ14, ρ15, ρ16, ρ17, ρ18, ρ19, ρ20, ρ21, ρ22, ρ23, ρ24, Kd.isRo, ρ25, ρ26, bldV, Nat.reduceLeDiff, Int.reduceMul, Int.reduceAdd, Int.reduceSub, Int.reduceToNat, maxLen_eq, zeros_one, appS_some, appV_n, appV_v, appH_t, appH_f, Kd.isEx, ρ27, partV, CH.set_set, lkV, lkR, isKey, mupV, nxtV, ρ28, ρ29]) | (with_reducible first | refine condK_dec (fun _ => ?_) fun _ => ?_ | refine grd_dec (fun _ => ?_) fun _ => ?_ | refine egrd_dec (fun _ => ?_) fun _ => ?_)); all_goals rfl), rfl⟩ ?_
      rintro n fr2 K ⟨f14, rfl⟩ hag2
      obtain ⟨gg, K12, q1, q2⟩ := room4 (K := K.new (.cells six 33 .ex)) (v := .slice none 0 0) (n := 0) (by omega) (xs := six) rfl (.inl ⟨rfl, rfl⟩)
      have hs3 : ∀ Q, WpF (tblG Try.prog LG GG) 12 [vb, vw] K12 Q ↔ Q (.bool true) K12 := fun Q => wpF_iff (same_wp K12
        (tb.mv fun b' o n c e => by
          have := hxb b' o n c e
          rw [q2 b' (by simp only [new_nx]; omega) (fun _ _ _ _ e => by cases e), new_get, if_neg (by omega)])
        (tw.mv fun b' o n c e => by
          have := hxw b' o n c e
          rw [q2 b' (by simp only [new_nx]; omega) (fun _ _ _ _ e => by cases e), new_get, if_neg (by omega)]) lexL_len)
      simp only [six] at q1
      repeat' (first | (simp (disch := first | omega | (decide +kernel) | (repeat first | assumption | exact HExt.refl _ | refine HExt.set ?_ (by first | omega | (simp only [new_nx, set_nx]; omega)) _ | refine HExt.new ?_ _)) only [↓r_seq, ↓r_block, ↓seqK_n, ↓seqK_r, ↓seqK_e, ↓blockK_n, ↓blockK_r, ↓blockK_e, ↓loopI_n, ↓loopI_r, ↓loopI_e, ↓funK_n, ↓funK_r, ↓r_reg, ↓r_drw, ↓r_cond, ↓condK_t, ↓condK_f, ↓i_cons, ↓eitemK, ↓e_nil, ↓e_cons, ↓e_grd, ↓egrd_tt, ↓egrd_ff, ↓egrd_tf, ↓egrd_ft, ↓egrd_s, ↓drwK, ↓r_drw2, ↓chk_nil, ↓chk_n, ↓chk_g, agL, agV_tt, agV_ff, agV_tf, agV_ft, agV_s, agE, accW_t, accW_f, isW, ↓i_grd, ↓grd_tt, ↓grd_ff, ↓grd_tf, ↓grd_ft, ↓grd_s, ↓itemK, ↓o_p, ↓o_l, ↓o_a, ↓o_w, ↓o_call, ↓o_callv, ↓callvK_f, ↓callvK_y, ↓r_range, ↓rangeV_f, ↓putF_get, ↓putF_none, ↓evF_t, ↓evF_c, ↓evF_f, new_nx, set_nx, new_get, set_get, optV_some, optW_some, optA_some, finK_some, ↓wpI_nil, ↓wpR_skip, ↓wpR_exit, ↓wpR_ret, getD_zero, getD_succ, b_add, b_sub, b_mul, b_quo, b_rem, b_eql, b_neq, b_lss, b_leq, b_gtr, b_geq, u_not, w_i64, w_u64, w_u8, t_div, t_mod, pop, lop, aop, wop, resL, resV, tupleV, akV, isVal, isCell, Value.cells, List.map_cons, List.map_nil, Bool.not_true, Bool.not_false, Option.map_some, ↓reduceIte, Nat.reduceEqDiff, Nat.reduceAdd, Int.reduceOfNat, Int.reduceNegSucc, decide_true, decide_false, reduceCtorEq, List.getElem?_cons_zero, List.getElem?_cons_succ, List.length_cons, List.length_nil, setc_0, setc_s, srcR_c, src_n, src_v, src_r, src_s, bnd, lenV, capV, Option.isSome_none, Option.isNone_none, Option.isSome_some, Option.isNone_some, Bool.or_false, Bool.or_true, Bool.true_or, Bool.false_or, List.take_succ_cons, List.take_zero, List.drop_succ_cons, List.drop_zero, List.cons_append, List.nil_append, List.append_nil, List.take_nil, List.drop_nil, List.all_cons, List.all_nil, Bool.and_true, Bool.true_and, Kd.isRo, List.size_toArray, List.getElem?_toArray, List.toList_toArray, bldV, Nat.reduceLeDiff, Nat.le_refl, u_neg, b_or0, Int.reduceMul, Int.reduceAdd, Int.reduceSub, Int.zero_mul, Int.zero_add, Int.add_zero, b_and3, b_and8, b_and24, b_shr2, b_shrs2, b_shr8, b_shr32, b_shr56, b_shl2, b_shl8, b_shl32, toNat_add1, toNat_add2, toNat_addn, toNat_add2n, Int.reduceToNat, maxLen_eq, zeros_one, zeros_two, zeros_three, take_mapl, List.length_map, List.map_append, List.length_append, beq_self_eq_true, beq_true, beq_false, Bool.false_xor, Bool.true_xor, Bool.xor_false, Bool.xor_true, dec_t, dec_f, ↓w_app, appS_some, appV_v, appR_c, appH_t, appH_f, Kd.isEx, Bool.false_and, partV, if_pos, if_neg, Nat.mul_one, Nat.one_mul, Nat.zero_add, Nat.add_zero, Int.toNat_natCast, true_and, and_true, hag, hag2, f14, hz6, ht6, q1, hs3]) | (with_reducible first | refine condK_dec (fun _ => ?_) fun _ => ?_ | refine grd_dec (fun _ => ?_) fun _ => ?_ | refine egrd_dec (fun _ => ?_) fun _ => ?_))
    · have hb9 : K9.ob b = .cells ((lexL src).flatMap tokC) 33 kd := by
        rw [r5 b (by omega), hx58.ob b g2]; exact g3
      subst e2
      refine loop_w (fun n fr K => AwJ K K9 b (lexL src).length n (fr 14)) (n := (lexL src).length) ⟨0, _, kd, rfl, by omega, by (repeat' (first | (simp (disch := first | omega | (decide +kernel) | (repeat first | assumption | exact HExt.refl _ | refine HExt.set ?_ (by first | omega | (simp only [new_nx, set_nx]; omega)) _ | refine HExt.new ?_ _)) only [↓RD, RU, accW_t, accW_f, isW, ↓putF_get, ↓putF_none, ↓evF_t, ↓evF_c, ↓evF_f, new_nx, set_nx, new_get, set_get, getD_zero, getD_succ, u_not, pop, lop, aop, wop, resL, resV, tupleV, akV, isVal, isCell, Value.cells, ρ0, ρ1, ρ2, ρ3, ρ4, ↓reduceIte, Nat.reduceEqDiff, Nat.reduceAdd, Int.reduceOfNat, Int.reduceNegSucc, reduceCtorEq, ρ5, ρ6, ρ7, ρ8, srcR_c, src_n, src_v, src_s, bnd, lenV, capV, ρ9, ρ10, ρ11, ρ12, ρ13, ρ14, ρ15, ρ16, ρ17, ρ18, ρ19, ρ20, ρ21, ρ22, ρ23, ρ24, Kd.isRo, ρ25, ρ26, bldV, Nat.reduceLeDiff, Int.reduceMul, Int.reduceAdd, Int.reduceSub, Int.reduceToNat, maxLen_eq, zeros_one, appS_some, appV_n, appV_v, appH_t, appH_f, Kd.isEx, ρ27, partV, CH.set_set, lkV, lkR, isKey, mupV, nxtV, ρ28, ρ29]) | (with_reducible first | refine condK_dec (fun _ => ?_) fun _ => ?_ | refine grd_dec (fun _ => ?_) fun _ => ?_ | refine egrd_dec (fun _ => ?_) fun _ => ?_)); all_goals rfl), hb9, g4, tokLen, rfl, fun _ _ => rfl⟩ ?_
      rintro n fr2 K10 ⟨j, os2, kd2, rfl, hj, f14, w1, w2, w3, w4, w5⟩ hag2
      by_cases hjl : j < (lexL src).length
      · have hj3 : j * 3 + 3 ≤ os2.length := by omega
        repeat' (first | (simp (disch := first | omega | (decide +kernel) | (repeat first | assumption | exact HExt.refl _ | refine HExt.set ?_ (by first | omega | (simp only [new_nx, set_nx]; omega)) _ | refine HExt.new ?_ _)) only [↓r_seq, ↓r_block, ↓seqK_n, ↓seqK_r, ↓seqK_e, ↓blockK_n, ↓blockK_r, ↓blockK_e, ↓loopI_n, ↓loopI_r, ↓loopI_e, ↓funK_n, ↓funK_r, ↓r_reg, ↓r_drw, ↓r_cond, ↓condK_t, ↓condK_f, ↓i_cons, ↓eitemK, ↓e_nil, ↓e_cons, ↓e_grd, ↓egrd_tt, ↓egrd_ff, ↓egrd_tf, ↓egrd_ft, ↓egrd_s, ↓drwK, ↓r_drw2, ↓chk_nil, ↓chk_n, ↓chk_g, agL, agV_tt, agV_ff, agV_tf, agV_ft, agV_s, agE, accW_t, accW_f, isW, ↓i_grd, ↓grd_tt, ↓grd_ff, ↓grd_tf, ↓grd_ft, ↓grd_s, ↓itemK, ↓o_p, ↓o_l, ↓o_a, ↓o_w, ↓o_call, ↓o_callv, ↓callvK_f, ↓callvK_y, ↓r_range, ↓rangeV_f, ↓putF_get, ↓putF_none, ↓evF_t, ↓evF_c, ↓evF_f, new_nx, set_nx, new_get, set_get, optV_some, optW_some, optA_some, finK_some, ↓wpI_nil, ↓wpR_skip, ↓wpR_exit, ↓wpR_ret, getD_zero, getD_succ, b_add, b_sub, b_mul, b_quo, b_rem, b_eql, b_neq, b_lss, b_leq, b_gtr, b_geq, u_not, w_i64, w_u64, w_u8, t_div, t_mod, pop, lop, aop, wop, resL, resV, tupleV, akV, isVal, isCell, Value.cells, List.map_cons, List.map_nil, Bool.not_true, Bool.not_false, Option.map_some, ↓reduceIte, Nat.reduceEqDiff, Nat.reduceAdd, Int.reduceOfNat, Int.reduceNegSucc, decide_true, decide_false, reduceCtorEq, List.getElem?_cons_zero, List.getElem?_cons_succ, List.length_cons, List.length_nil, setc_0, setc_s, srcR_c, src_n, src_v, src_r, src_s, bnd, lenV, capV, Option.isSome_none, Option.isNone_none, Option.isSome_some, Option.isNone_some, Bool.or_false, Bool.or_true, Bool.true_or, Bool.false_or, List.take_succ_cons, List.take_zero, List.drop_succ_cons, List.drop_zero, List.cons_append, List.nil_append, List.append_nil, List.take_nil, List.drop_nil, List.all_cons, List.all_nil, Bool.and_true, Bool.true_and, List.size_toArray, List.getElem?_toArray, List.toList_toArray, bldV, Nat.reduceLeDiff, Nat.le_refl, u_neg, b_or0, Int.reduceMul, Int.reduceAdd, Int.reduceSub, Int.zero_mul, Int.zero_add, Int.add_zero, b_and3, b_and8, b_and24, b_shr2, b_shrs2, b_shr8, b_shr32, b_shr56, b_shl2, b_shl8, b_shl32, toNat_add1, toNat_add2, toNat_addn, toNat_add2n, Int.reduceToNat, maxLen_eq, zeros_one, zeros_two, zeros_three, take_mapl, List.length_map, List.map_append, List.length_append, beq_self_eq_true, beq_true, beq_false, Bool.false_xor, Bool.true_xor, Bool.xor_false, Bool.xor_true, dec_t, dec_f, ↓w_app, appS_some, appV_n, appV_v, appV_r, appR_c, appH_t, appH_f, Kd.isEx, Bool.false_and, partV, if_pos, if_neg, Nat.mul_one, Nat.one_mul, Nat.zero_add, Nat.add_zero, Int.toNat_natCast, true_and, and_true, hag, hag2, f14, w1, w2, hj3]) | (with_reducible first | refine condK_dec (fun _ => ?_) fun _ => ?_ | refine grd_dec (fun _ => ?_) fun _ => ?_ | refine egrd_dec (fun _ => ?_) fun _ => ?_))
        all_goals exact ⟨(lexL src).length - (j + 1), by omega, j + 1, _, kd2, rfl, by omega, rfl, set_get.trans (if_pos rfl), w2, set3_len hjl w3, w4, fun l hl => by rw [set_get, if_neg hl]; exact w5 l hl⟩
      · have g1' := g1
        have hbl9 : b < K10.nx := by have := hx58.nx; omega
        have hbn : ¬ b = K10.nx := by omega
        obtain ⟨gg, K12, q1, q2⟩ := room4 (K := K10.new (.cells six 33 .ex)) (v := .slice (some ⟨b, 0, none⟩) (lexL src).length (lexL src).length) (n := (lexL src).length) hll (xs := six) rfl (.inr ⟨b, os2, kd2, rfl, by rw [new_get, if_neg hbn]; exact w1, w2, by omega, by simp only [new_nx]; omega⟩)
        have hq : ∀ l, l < K9.nx → l ≠ b → K12.ob l = K9.ob l := fun l hl hb => by
          rw [q2 l (by simp only [new_nx]; omega) (fun _ _ _ _ e => by cases e; exact hb), new_get, if_neg (by omega)]
          exact w5 l hb
        have h57 : K5.nx ≤ K7.nx := by
          have := hw3.nx
          have := hx7.nx
          omega
        have hs3 : ∀ Q, WpF (tblG Try.prog LG GG) 12 [vb, vw] K12 Q ↔ Q (.bool true) K12 := fun Q => wpF_iff (same_wp K12
          (tb.mv fun b' o n c e => by
            have := hxb b' o n c e
            exact hq b' (by omega) (by omega))
          (tw.mv fun b' o n c e => by
            have := hxw b' o n c e
            exact hq b' (by omega) (by omega)) lexL_len)
        simp only [six] at q1
        repeat' (first | (simp (disch := first | omega | (decide +kernel) | (repeat first | assumption | exact HExt.refl _ | refine HExt.set ?_ (by first | omega | (simp only [new_nx, set_nx]; omega)) _ | refine HExt.new ?_ _)) only [↓r_seq, ↓r_block, ↓seqK_n, ↓seqK_r, ↓seqK_e, ↓blockK_n, ↓blockK_r, ↓blockK_e, ↓loopI_n, ↓loopI_r, ↓loopI_e, ↓funK_n, ↓funK_r, ↓r_reg, ↓r_drw, ↓r_cond, ↓condK_t, ↓condK_f, ↓i_cons, ↓eitemK, ↓e_nil, ↓e_cons, ↓e_grd, ↓egrd_tt, ↓egrd_ff, ↓egrd_tf, ↓egrd_ft, ↓egrd_s, ↓drwK, ↓r_drw2, ↓chk_nil, ↓chk_n, ↓chk_g, agL, agV_tt, agV_ff, agV_tf, agV_ft, agV_s, agE, accW_t, accW_f, isW, ↓i_grd, ↓grd_tt, ↓grd_ff, ↓grd_tf, ↓grd_ft, ↓grd_s, ↓itemK, ↓o_p, ↓o_l, ↓o_a, ↓o_w, ↓o_call, ↓o_callv, ↓callvK_f, ↓callvK_y, ↓r_range, ↓rangeV_f, ↓putF_get, ↓putF_none, ↓evF_t, ↓evF_c, ↓evF_f, new_nx, set_nx, new_get, set_get, optV_some, optW_some, optA_some, finK_some, ↓wpI_nil, ↓wpR_skip, ↓wpR_exit, ↓wpR_ret, getD_zero, getD_succ, b_add, b_sub, b_mul, b_quo, b_rem, b_eql, b_neq, b_lss, b_leq, b_gtr, b_geq, u_not, w_i64, w_u64, w_u8, t_div, t_mod, pop, lop, aop, wop, resL, resV, tupleV, akV, isVal, isCell, Value.cells, List.map_cons, List.map_nil, Bool.not_true, Bool.not_false, Option.map_some, ↓reduceIte, Nat.reduceEqDiff, Nat.reduceAdd, Int.reduceOfNat, Int.reduceNegSucc, decide_true, decide_false, reduceCtorEq, List.getElem?_cons_zero, List.getElem?_cons_succ, List.length_cons, List.length_nil, setc_0, setc_s, srcR_c, src_n, src_v, src_r, src_s, bnd, lenV, capV, Option.isSome_none, Option.isNone_none, Option.isSome_some, Option.isNone_some, Bool.or_false, Bool.or_true, Bool.true_or, Bool.false_or, List.take_succ_cons, List.take_zero, List.drop_succ_cons, List.drop_zero, List.cons_append, List.nil_append, List.append_nil, List.take_nil, List.drop_nil, List.all_cons, List.all_nil, Bool.and_true, Bool.true_and, Kd.isRo, List.size_toArray, List.getElem?_toArray, List.toList_toArray, bldV, Nat.reduceLeDiff, Nat.le_refl, u_neg, b_or0, Int.reduceMul, Int.reduceAdd, Int.reduceSub, Int.zero_mul, Int.zero_add, Int.add_zero, b_and3, b_and8, b_and24, b_shr2, b_shrs2, b_shr8, b_shr32, b_shr56, b_shl2, b_shl8, b_shl32, toNat_add1, toNat_add2, toNat_addn, toNat_add2n, Int.reduceToNat, maxLen_eq, zeros_one, zeros_two, zeros_three, take_mapl, List.length_map, List.map_append, List.length_append, beq_self_eq_true, beq_true, beq_false, Bool.false_xor, Bool.true_xor, Bool.xor_false, Bool.xor_true, dec_t, dec_f, ↓w_app, appS_some, appV_v, appR_c, appH_t, appH_f, Kd.isEx, Bool.false_and, partV, if_pos, if_neg, Nat.mul_one, Nat.one_mul, Nat.zero_add, Nat.add_zero, Int.toNat_natCast, true_and, and_true, hag, hag2, f14, hz6, ht6, q1, hs3]) | (with_reducible first | refine condK_dec (fun _ => ?_) fun _ => ?_ | refine grd_dec (fun _ => ?_) fun _ => ?_ | refine egrd_dec (fun _ => ?_) fun _ => ?_))
end Can
end Go.Proofs.Ytmglmoehlegojaa
