/- Lex: a row. -/
import Derived.Test.YtmglmoehlegojaaLxZ
import Derived.Test.YtmglmoehlegojaaLxL
namespace Go.Proofs.Ytmglmoehlegojaa
namespace Can
open Go Go.RowKit
set_option linter.unusedSimpArgs false
set_option linter.unusedVariables false
set_option maxRecDepth 4000
theorem depT_le {d k : Nat} {x : List UInt8} : depT d k x ≤ d + 1 := by
  unfold depT
  (repeat' split) <;> omega
theorem toks_len {line : Nat} : ∀ {f : Nat} {t : List UInt8} {d d' : Nat} {x : List Tok}, toks line f t d = some (x, d') → x.length ≤ t.length ∧ d' ≤ d + t.length
  | 0, _, _, _, _, h => by cases h
  | f + 1, t, d, d', x, h => by
    simp only [toks] at h
    split at h
    · cases h; simp
    · rename_i hb
      cases ht : tokT (t.drop (blkN t)) with
      | none => rw [ht] at h; cases h
      | some z =>
        obtain ⟨k, y, n⟩ := z
        rw [ht] at h
        simp only at h
        rw [Option.map_eq_some_iff] at h
        obtain ⟨⟨xs, e⟩, h1, h2⟩ := h
        cases h2
        obtain ⟨g1, g2⟩ := toks_len h1
        have g3 := tokT_len ht
        have g4 := @depT_le d k y
        simp only [List.length_drop] at g1 g2 g3
        simp only [List.length_cons]
        omega
theorem toks_fuel {line : Nat} : ∀ {f g : Nat} {t : List UInt8} {d : Nat}, t.length < f → t.length < g → toks line f t d = toks line g t d
  | 0, _, _, _, h, _ => absurd h (by omega)
  | _, 0, _, _, _, h => absurd h (by omega)
  | f + 1, g + 1, t, d, hf, hg => by
    simp only [toks]
    split
    · rfl
    · rename_i hb
      cases ht : tokT (t.drop (blkN t)) with
      | none => rfl
      | some z =>
        obtain ⟨k, y, n⟩ := z
        have g3 := tokT_len ht
        simp only [List.length_drop] at g3
        simp only
        rw [toks_fuel (f := f) (g := g) (by simp; omega) (by simp; omega)]
theorem indT_len {line n : Nat} {st : List Nat} : (indT line st n).1.length + (indT line st n).2.length ≤ st.length + 2 := by
  unfold indT
  split
  · simp; omega
  · have h1 : (st.takeWhile fun x => decide (n < x)).length + (st.dropWhile fun x => decide (n < x)).length = st.length := by
      rw [← List.length_append, List.takeWhile_append_dropWhile]
    simp only [List.length_replicate]
    omega
def RowOut (A K : CH) (p : Nat) (src : List UInt8) (s : RS) (m : Nat) (t : List UInt8) (r : Except Nat (List Tok × Nat × List Nat)) : Prop := match r with
  | .ok (x, d', st') => ∃ vo' vt', RdAt A K p src { s with pos := s.pos + t.length, dep := d', opn := st'.reverse, out := s.out ++ x } vo' vt' m
  | .error e => ∃ vo' vt' s', RdAt A K p src s' vo' vt' m ∧ s'.err = e ∧ s'.wh = s.line
/-- What is known within a row, behind its indentation. -/
structure RwB (s : RS) (t : List UInt8) (j f d : Nat) (ts : List Tok) : Prop where
  tk : toks s.line (t.length + 1) t s.dep = (toks s.line f (t.drop j) d).map fun y => (ts ++ y.1, y.2)
  fu : t.length - j < f
  fl : f ≤ t.length + 1
  jl : j ≤ t.length
  dl : d ≤ s.dep + j
  tl : ts.length ≤ j
/-- The state within a row. -/
def rwS (s : RS) (ins : List Tok) (op1 : List Nat) (j d : Nat) (ts : List Tok) : RS := { s with pos := s.pos + j, dep := d, opn := op1, out := s.out ++ ins ++ ts }
/-- A token behind the blanks. -/
theorem RwB.step {s : RS} {t : List UInt8} {j f d : Nat} {ts : List Tok} (h : RwB s t j f d ts) (hlt : ¬ (t.drop j).length ≤ blkN (t.drop j)) {k n : Nat} {x : List UInt8} (ht : tokT (t.drop (j + blkN (t.drop j))) = some (k, x, n)) :
    ∃ f', f' < f ∧ RwB s t (j + blkN (t.drop j) + n) f' (depT d k x) (ts ++ [⟨k, s.line, x⟩]) := by
  obtain ⟨f', rfl⟩ : ∃ f', f = f' + 1 := ⟨f - 1, by have := h.fu; omega⟩
  have g3 := tokT_len ht
  simp only [List.length_drop] at g3 hlt
  have hjl := h.jl
  have hfu := h.fu
  have hfl := h.fl
  have hdl := h.dl
  have htl := h.tl
  have hd := @depT_le d k x
  refine ⟨f', Nat.lt_succ_self _, ⟨?_, by omega, by omega, by omega, by omega, by simp; omega⟩⟩
  rw [h.tk]
  simp only [toks]
  rw [if_neg (by simp; omega), List.drop_drop, ht]
  simp only [List.drop_drop, ← Nat.add_assoc]
  cases toks s.line f' (t.drop (j + blkN (t.drop j) + n)) (depT d k x) with
  | none => rfl
  | some y => simp
theorem RwB.bad {s : RS} {t : List UInt8} {j f d : Nat} {ts : List Tok} (h : RwB s t j f d ts) (hlt : ¬ (t.drop j).length ≤ blkN (t.drop j)) (ht : tokT (t.drop (j + blkN (t.drop j))) = none) : toks s.line (t.length + 1) t s.dep = none := by
  obtain ⟨f', rfl⟩ : ∃ f', f = f' + 1 := ⟨f - 1, by have := h.fu; omega⟩
  rw [h.tk]
  simp only [toks]
  rw [if_neg hlt, List.drop_drop, ht]
  rfl
theorem RwB.fin {s : RS} {t : List UInt8} {j f d : Nat} {ts : List Tok} (h : RwB s t j f d ts) (hlt : (t.drop j).length ≤ blkN (t.drop j)) : toks s.line (t.length + 1) t s.dep = some (ts, d) := by
  obtain ⟨f', rfl⟩ : ∃ f', f = f' + 1 := ⟨f - 1, by have := h.fu; omega⟩
  rw [h.tk]
  simp only [toks]
  rw [if_pos hlt]
  simp
def insT (s : RS) (st : List Nat) (t : List UInt8) : List Tok := if s.dep = 0 then (indT s.line st (blkN t)).1 else []
def opT (s : RS) (st : List Nat) (t : List UInt8) : List Nat := if s.dep = 0 then (indT s.line st (blkN t)).2 else st
theorem rw_step {s : RS} {ins : List Tok} {op1 : List Nat} {j a n d : Nat} {ts : List Tok} {k : Nat} {x : List UInt8} : putS { atS (rwS s ins op1 (j + a) d ts) n with dep := depT d k x } k s.line x = rwS s ins op1 (j + a + n) (depT d k x) (ts ++ [⟨k, s.line, x⟩]) := by
  simp only [putS, atS, rwS, RS.mk.injEq, List.append_assoc, and_true, true_and]
  omega
def RwI (A : CH) (p : Nat) (src : List UInt8) (s : RS) (m : Nat) (st : List Nat) (t : List UInt8) (n : Nat) (v4 : Value) (K1 : CH) : Prop := (n = t.length + 3 ∧ v4 = .bool false ∧ ∃ vo vt, RdAt A K1 p src s vo vt m) ∨
    (¬ t.length ≤ blkN t ∧ ¬ (s.dep = 0 ∧ (indT s.line st (blkN t)).2.headD 0 ≠ blkN t) ∧ v4 = .bool true ∧
      ((∃ j f d ts vo1 vt1, n = f + 1 ∧ RwB s t j f d ts ∧ RdAt A K1 p src (rwS s (insT s st t) (opT s st t).reverse j d ts) vo1 vt1 m) ∨
       (∃ s' vo1 vt1, n = 0 ∧ toks s.line (t.length + 1) t s.dep = none ∧ RdAt A K1 p src s' vo1 vt1 m ∧ s'.err = 20 ∧ s'.wh = s.line ∧ s'.out.length + s'.opn.length < 400000 ∧ s'.line ≤ 100000)))
/-- Behind a token: what the loop carries. -/
theorem rwI_tok {A K : CH} {p : Nat} {src : List UInt8} {s : RS} {m : Nat} {st : List Nat} {t : List UInt8} {j f d : Nat} {ts : List Tok} {vo : Value} (hne : ¬ t.length ≤ blkN t) (hok : ¬ (s.dep = 0 ∧ (indT s.line st (blkN t)).2.headD 0 ≠ blkN t)) (hB : RwB s t j f d ts) (hlt : j + blkN (t.drop j) < t.length) (hln : s.line ≤ 100000) (hsl : src.length ≤ 20000) (hb : s.out.length + s.opn.length < 200000) (hins : (insT s st t).length + (opT s st t).length ≤ s.opn.length + 2) (hjt : t.length ≤ 20000)
    (h : TokOut A K p src (rwS s (insT s st t) (opT s st t).reverse (j + blkN (t.drop j)) d ts) vo m (tokT (t.drop (j + blkN (t.drop j))))) : ∃ n, n < f + 1 ∧ RwI A p src s m st t n (.bool true) K := by
  have hlt' : ¬ (t.drop j).length ≤ blkN (t.drop j) := by simp; omega
  have htl := hB.tl
  have hjl := hB.jl
  cases htk : tokT (t.drop (j + blkN (t.drop j))) with
  | none =>
    rw [htk] at h
    obtain ⟨vt', s', h1, h2, h3, h4, h5, h6, h7, h8, h9⟩ := h
    refine ⟨0, by omega, .inr ⟨hne, hok, rfl, .inr ⟨s', vo, vt', rfl, hB.bad hlt' htk, h1, h2, h3, ?_, by rw [h9]; exact hln⟩⟩⟩
    rw [h5]
    simp only [rwS, List.length_append, List.length_reverse] at h6 ⊢
    omega
  | some z =>
    obtain ⟨k, x, n⟩ := z
    rw [htk] at h
    obtain ⟨vt', h1⟩ := h
    obtain ⟨f', hf, hB'⟩ := hB.step hlt' htk
    have h2 : RdAt A K p src (rwS s (insT s st t) (opT s st t).reverse (j + blkN (t.drop j) + n) (depT d k x) (ts ++ [⟨k, s.line, x⟩])) vo vt' m := by
      rw [← rw_step]; exact h1
    exact ⟨f' + 1, by omega, .inr ⟨hne, hok, rfl, .inl ⟨_, f', _, _, vo, vt', rfl, hB', h2⟩⟩⟩
set_option maxHeartbeats 1000000 in
theorem row_wp {A K : CH} {p : Nat} {src : List UInt8} {s : RS} {vo vt : Value} {m : Nat} (h : RdAt A K p src s vo vt m) {st : List Nat} (hst : s.opn = st.reverse) (hz : st.getLast? = some 0) (h0 : s.err = 0) {t u : List UInt8} (htu : src.drop s.pos = t ++ u) (hu : Nl u) (hnt : ∀ x ∈ t, x.toNat ≠ 10) (hps : s.pos ≤ src.length) (hb : s.out.length + s.opn.length < 200000) (hdp : s.dep < 50000) :
    WpF (tblG Try.prog LG GG) 19 [.pointer (some ⟨p, 0, none⟩)] K fun v K' => RowOut A K' p src s m t (rowT s.line t s.dep st) := by
  have hsl := h.sl
  have hob := h.ob
  have hpl := h.pl
  have hln := h.bd.line
  have hlen : src.length = s.pos + t.length + u.length := by
    have := congrArg List.length htu
    simp at this; omega
  have hdr : ∀ q, q ≤ t.length → src.drop (s.pos + q) = t.drop q ++ u := fun q hq => by rw [← List.drop_drop, htu, drop_app hq]
  have hin : ∀ q, q < t.length → ∃ c, src[s.pos + q]? = some c ∧ c.toNat ≠ 10 := fun q hq => by
    refine ⟨t[q], ?_, hnt _ (List.getElem_mem hq)⟩
    have := congrArg (·[q]?) htu
    simp only [List.getElem?_drop] at this
    rw [this, List.getElem?_append_left hq, List.getElem?_eq_getElem hq]
  have hout : src.length ≤ s.pos + t.length ∨ src[s.pos + t.length]? = some 10 := by
    rcases hu with rfl | ⟨r, rfl⟩
    · left; simp at hlen; omega
    · right
      have := congrArg (·[t.length]?) htu
      simp only [List.getElem?_drop] at this
      rw [this, List.getElem?_append_right (Nat.le_refl _)]; simp
  have hil := @indT_len s.line (blkN t) st
  have hstl : s.opn.length = st.length := by rw [hst]; simp
  have hins : (insT s st t).length + (opT s st t).length ≤ st.length + 2 := by
    unfold insT opT
    split
    · exact hil
    · simp
  refine wpF_rG (by rfl) (by kernel_rfl) ?_; (conv in (rF _ _).body => reduce); (conv in (rF _ _).res => reduce)
  repeat' (first | (simp (disch := first | omega | (decide +kernel) | (repeat first | assumption | exact HExt.refl _ | refine HExt.set ?_ (by first | omega | (simp only [new_nx, set_nx]; omega)) _ | refine HExt.new ?_ _)) only [↓RD, RU, accW_t, accW_f, isW, ↓putF_get, ↓putF_none, ↓evF_t, ↓evF_c, ↓evF_f, new_nx, set_nx, new_get, set_get, getD_zero, getD_succ, u_not, pop, lop, aop, wop, resL, resV, tupleV, akV, isVal, isCell, Value.cells, ρ0, ρ1, ρ2, ρ3, ρ4, ↓reduceIte, Nat.reduceEqDiff, Nat.reduceAdd, Int.reduceOfNat, Int.reduceNegSucc, reduceCtorEq, ρ5, ρ6, ρ7, ρ8, srcR_c, src_n, src_v, src_s, bnd, lenV, capV, ρ9, ρ10, ρ11, ρ12, ρ13, ρ14, ρ15, ρ16, ρ17, ρ18, ρ19, ρ20, ρ21, ρ22, ρ23, ρ24, Kd.isRo, ρ25, ρ26, bldV, Nat.reduceLeDiff, Int.reduceMul, Int.reduceAdd, Int.reduceSub, Int.reduceToNat, maxLen_eq, zeros_one, appS_some, appV_n, appV_v, appH_t, appH_f, Kd.isEx, ρ27, partV, CH.set_set, lkV, lkR, isKey, mupV, nxtV, ρ28, ρ29, hob]) | (with_reducible first | refine condK_dec (fun _ => ?_) fun _ => ?_ | refine grd_dec (fun _ => ?_) fun _ => ?_ | refine egrd_dec (fun _ => ?_) fun _ => ?_))
  refine loop_w (fun n fr K1 => RwI A p src s m st t n (fr 4) K1) (n := t.length + 3) (.inl ⟨rfl, by repeat' (first | (simp (disch := first | omega | (decide +kernel) | (repeat first | assumption | exact HExt.refl _ | refine HExt.set ?_ (by first | omega | (simp only [new_nx, set_nx]; omega)) _ | refine HExt.new ?_ _)) only [↓RD, RU, accW_t, accW_f, isW, ↓putF_get, ↓putF_none, ↓evF_t, ↓evF_c, ↓evF_f, new_nx, set_nx, new_get, set_get, getD_zero, getD_succ, u_not, pop, lop, aop, wop, resL, resV, tupleV, akV, isVal, isCell, Value.cells, ρ0, ρ1, ρ2, ρ3, ρ4, ↓reduceIte, Nat.reduceEqDiff, Nat.reduceAdd, Int.reduceOfNat, Int.reduceNegSucc, reduceCtorEq, ρ5, ρ6, ρ7, ρ8, srcR_c, src_n, src_v, src_s, bnd, lenV, capV, ρ9, ρ10, ρ11, ρ12, ρ13, ρ14, ρ15, ρ16, ρ17, ρ18, ρ19, ρ20, ρ21, ρ22, ρ23, ρ24, Kd.isRo, ρ25, ρ26, bldV, Nat.reduceLeDiff, Int.reduceMul, Int.reduceAdd, Int.reduceSub, Int.reduceToNat, maxLen_eq, zeros_one, appS_some, appV_n, appV_v, appH_t, appH_f, Kd.isEx, ρ27, partV, CH.set_set, lkV, lkR, isKey, mupV, nxtV, ρ28, ρ29]) | (with_reducible first | refine condK_dec (fun _ => ?_) fun _ => ?_ | refine grd_dec (fun _ => ?_) fun _ => ?_ | refine egrd_dec (fun _ => ?_) fun _ => ?_)), vo, vt, h⟩) ?_
  rintro n fr K1 hI hag
  obtain ⟨v4, f4⟩ : ∃ v, fr 4 = v := ⟨_, rfl⟩
  rw [f4] at hI
  rcases hI with ⟨rfl, rfl, vo1, vt1, h1⟩ | ⟨hne, hok, rfl, (⟨j, f, d, ts, vo1, vt1, rfl, hB, h1⟩ | ⟨s', vo1, vt1, rfl, hno, h1, he', hw', hb', hl'⟩)⟩
  · have hob1 := h1.ob
    have hpl1 := h1.pl
    repeat' (first | (simp (disch := first | omega | (decide +kernel) | (repeat first | assumption | exact HExt.refl _ | refine HExt.set ?_ (by first | omega | (simp only [new_nx, set_nx]; omega)) _ | refine HExt.new ?_ _)) only [↓RD, RU, accW_t, accW_f, isW, ↓putF_get, ↓putF_none, ↓evF_t, ↓evF_c, ↓evF_f, new_nx, set_nx, new_get, set_get, getD_zero, getD_succ, u_not, pop, lop, aop, wop, resL, resV, tupleV, akV, isVal, isCell, Value.cells, ρ0, ρ1, ρ2, ρ3, ρ4, ↓reduceIte, Nat.reduceEqDiff, Nat.reduceAdd, Int.reduceOfNat, Int.reduceNegSucc, reduceCtorEq, ρ5, ρ6, ρ7, ρ8, srcR_c, src_n, src_v, src_s, bnd, lenV, capV, ρ9, ρ10, ρ11, ρ12, ρ13, ρ14, ρ15, ρ16, ρ17, ρ18, ρ19, ρ20, ρ21, ρ22, ρ23, ρ24, Kd.isRo, ρ25, ρ26, bldV, Nat.reduceLeDiff, Int.reduceMul, Int.reduceAdd, Int.reduceSub, Int.reduceToNat, maxLen_eq, zeros_one, appS_some, appV_n, appV_v, appH_t, appH_f, Kd.isEx, ρ27, partV, CH.set_set, lkV, lkR, isKey, mupV, nxtV, ρ28, ρ29, hag, hob1, h0]) | (with_reducible first | refine condK_dec (fun _ => ?_) fun _ => ?_ | refine grd_dec (fun _ => ?_) fun _ => ?_ | refine egrd_dec (fun _ => ?_) fun _ => ?_))
    refine (blank_wp h1 (by omega)).mono fun v2 K2 h2 => ?_
    have hd0 := hdr 0 (by omega)
    simp only [Nat.add_zero, List.drop_zero] at hd0
    rw [hd0, blkN_app hu] at h2
    obtain ⟨a, ha⟩ : ∃ a, blkN t = a := ⟨_, rfl⟩
    have hal := blkN_len (t := t)
    rw [ha] at h2 hal
    have hob2 := h2.ob
    have hpl2 := h2.pl
    have hpd2 : (atS s a).pos = s.pos + a := rfl
    have hdd2 : (atS s a).dep = s.dep := rfl
    by_cases hle : t.length ≤ a
    · have hae : a = t.length := by omega
      subst hae
      have hr : rowT s.line t s.dep st = .ok ([], s.dep, st) := by unfold rowT; rw [if_pos (by omega)]
      have hfin : RowOut A K2 p src s m t (rowT s.line t s.dep st) := by
        rw [hr]
        refine ⟨vo1, vt1, ?_⟩
        rw [← hst, List.append_nil]
        exact h2
      rcases hout with g | g
      · repeat' (first | (simp (disch := first | omega | (decide +kernel) | (repeat first | assumption | exact HExt.refl _ | refine HExt.set ?_ (by first | omega | (simp only [new_nx, set_nx]; omega)) _ | refine HExt.new ?_ _)) only [↓RD, RU, accW_t, accW_f, isW, ↓putF_get, ↓putF_none, ↓evF_t, ↓evF_c, ↓evF_f, new_nx, set_nx, new_get, set_get, getD_zero, getD_succ, u_not, pop, lop, aop, wop, resL, resV, tupleV, akV, isVal, isCell, Value.cells, ρ0, ρ1, ρ2, ρ3, ρ4, ↓reduceIte, Nat.reduceEqDiff, Nat.reduceAdd, Int.reduceOfNat, Int.reduceNegSucc, reduceCtorEq, ρ5, ρ6, ρ7, ρ8, srcR_c, src_n, src_v, src_s, bnd, lenV, capV, ρ9, ρ10, ρ11, ρ12, ρ13, ρ14, ρ15, ρ16, ρ17, ρ18, ρ19, ρ20, ρ21, ρ22, ρ23, ρ24, Kd.isRo, ρ25, ρ26, bldV, Nat.reduceLeDiff, Int.reduceMul, Int.reduceAdd, Int.reduceSub, Int.reduceToNat, maxLen_eq, zeros_one, appS_some, appV_n, appV_v, appH_t, appH_f, Kd.isEx, ρ27, partV, CH.set_set, lkV, lkR, isKey, mupV, nxtV, ρ28, ρ29, hag, hob2, hpd2, hdd2, str_size, f4]) | (with_reducible first | refine condK_dec (fun _ => ?_) fun _ => ?_ | refine grd_dec (fun _ => ?_) fun _ => ?_ | refine egrd_dec (fun _ => ?_) fun _ => ?_))
        all_goals exact hfin
      · repeat' (first | (simp (disch := first | omega | (decide +kernel) | (repeat first | assumption | exact HExt.refl _ | refine HExt.set ?_ (by first | omega | (simp only [new_nx, set_nx]; omega)) _ | refine HExt.new ?_ _)) only [↓RD, RU, accW_t, accW_f, isW, ↓putF_get, ↓putF_none, ↓evF_t, ↓evF_c, ↓evF_f, new_nx, set_nx, new_get, set_get, getD_zero, getD_succ, u_not, pop, lop, aop, wop, resL, resV, tupleV, akV, isVal, isCell, Value.cells, ρ0, ρ1, ρ2, ρ3, ρ4, ↓reduceIte, Nat.reduceEqDiff, Nat.reduceAdd, Int.reduceOfNat, Int.reduceNegSucc, reduceCtorEq, ρ5, ρ6, ρ7, ρ8, srcR_c, src_n, src_v, src_s, bnd, lenV, capV, ρ9, ρ10, ρ11, ρ12, ρ13, ρ14, ρ15, ρ16, ρ17, ρ18, ρ19, ρ20, ρ21, ρ22, ρ23, ρ24, Kd.isRo, ρ25, ρ26, bldV, Nat.reduceLeDiff, Int.reduceMul, Int.reduceAdd, Int.reduceSub, Int.reduceToNat, maxLen_eq, zeros_one, appS_some, appV_n, appV_v, appH_t, appH_f, Kd.isEx, ρ27, partV, CH.set_set, lkV, lkR, isKey, mupV, nxtV, ρ28, ρ29, hag, hob2, hpd2, hdd2, str_size, str_get, g, f4]) | (with_reducible first | refine condK_dec (fun _ => ?_) fun _ => ?_ | refine grd_dec (fun _ => ?_) fun _ => ?_ | refine egrd_dec (fun _ => ?_) fun _ => ?_))
        all_goals exact hfin
    · obtain ⟨c, hc, hc10⟩ := hin a (by omega)
      have hle' : ¬ t.length ≤ blkN t := by rw [ha]; exact hle
      have hB0 : RwB s t 0 (t.length + 1) s.dep [] := ⟨by
        simp only [List.drop_zero, List.nil_append]
        cases toks s.line (t.length + 1) t s.dep <;> rfl, by omega, by omega, by omega, by omega, by simp⟩
      have hb0 : blkN (t.drop 0) = a := by simpa using ha
      have hsubp : ((s.pos + a : Nat) : Int) - (s.pos : Int) = (a : Int) := by omega
      by_cases hdz : s.dep = 0
      · repeat' (first | (simp (disch := first | omega | (decide +kernel) | (repeat first | assumption | exact HExt.refl _ | refine HExt.set ?_ (by first | omega | (simp only [new_nx, set_nx]; omega)) _ | refine HExt.new ?_ _)) only [↓RD, RU, accW_t, accW_f, isW, ↓putF_get, ↓putF_none, ↓evF_t, ↓evF_c, ↓evF_f, new_nx, set_nx, new_get, set_get, getD_zero, getD_succ, u_not, pop, lop, aop, wop, resL, resV, tupleV, akV, isVal, isCell, Value.cells, ρ0, ρ1, ρ2, ρ3, ρ4, ↓reduceIte, Nat.reduceEqDiff, Nat.reduceAdd, Int.reduceOfNat, Int.reduceNegSucc, reduceCtorEq, ρ5, ρ6, ρ7, ρ8, srcR_c, src_n, src_v, src_s, bnd, lenV, capV, ρ9, ρ10, ρ11, ρ12, ρ13, ρ14, ρ15, ρ16, ρ17, ρ18, ρ19, ρ20, ρ21, ρ22, ρ23, ρ24, Kd.isRo, ρ25, ρ26, bldV, Nat.reduceLeDiff, Int.reduceMul, Int.reduceAdd, Int.reduceSub, Int.reduceToNat, maxLen_eq, zeros_one, appS_some, appV_n, appV_v, appH_t, appH_f, Kd.isEx, ρ27, partV, CH.set_set, lkV, lkR, isKey, mupV, nxtV, ρ28, ρ29, hag, hob2, hpd2, str_size, str_get, hc, hc10, f4, hsubp]) | (with_reducible first | refine condK_dec (fun _ => ?_) fun _ => ?_ | refine grd_dec (fun _ => ?_) fun _ => ?_ | refine egrd_dec (fun _ => ?_) fun _ => ?_))
        refine (indent_wp (s := atS s a) h2 (st := st) hst hz a (by omega) h0 (by show s.out.length + s.opn.length < _; omega)).mono fun v3 K3 ⟨vo3, vt3, h3⟩ => ?_
        have hei : insT s st t = (indT s.line st a).1 := by unfold insT; rw [if_pos hdz, ha]
        have heo : opT s st t = (indT s.line st a).2 := by unfold opT; rw [if_pos hdz, ha]
        by_cases hhead : (indT s.line st a).2.headD 0 = a
        · have e : indS (atS s a) st a = rwS s (insT s st t) (opT s st t).reverse a s.dep [] := by
            unfold indS
            rw [if_pos (show (indT (atS s a).line st a).2.headD 0 = a from hhead), hei, heo]
            simp [rwS, atS]
          rw [e] at h3
          have hob3 := h3.ob
          have hpl3 := h3.pl
          have he3 : (rwS s (insT s st t) (opT s st t).reverse a s.dep []).err = 0 := h0
          repeat' (first | (simp (disch := first | omega | (decide +kernel) | (repeat first | assumption | exact HExt.refl _ | refine HExt.set ?_ (by first | omega | (simp only [new_nx, set_nx]; omega)) _ | refine HExt.new ?_ _)) only [↓RD, RU, accW_t, accW_f, isW, ↓putF_get, ↓putF_none, ↓evF_t, ↓evF_c, ↓evF_f, new_nx, set_nx, new_get, set_get, getD_zero, getD_succ, u_not, pop, lop, aop, wop, resL, resV, tupleV, akV, isVal, isCell, Value.cells, ρ0, ρ1, ρ2, ρ3, ρ4, ↓reduceIte, Nat.reduceEqDiff, Nat.reduceAdd, Int.reduceOfNat, Int.reduceNegSucc, reduceCtorEq, ρ5, ρ6, ρ7, ρ8, srcR_c, src_n, src_v, src_s, bnd, lenV, capV, ρ9, ρ10, ρ11, ρ12, ρ13, ρ14, ρ15, ρ16, ρ17, ρ18, ρ19, ρ20, ρ21, ρ22, ρ23, ρ24, Kd.isRo, ρ25, ρ26, bldV, Nat.reduceLeDiff, Int.reduceMul, Int.reduceAdd, Int.reduceSub, Int.reduceToNat, maxLen_eq, zeros_one, appS_some, appV_n, appV_v, appH_t, appH_f, Kd.isEx, ρ27, partV, CH.set_set, lkV, lkR, isKey, mupV, nxtV, ρ28, ρ29, hag, hob3, he3]) | (with_reducible first | refine condK_dec (fun _ => ?_) fun _ => ?_ | refine grd_dec (fun _ => ?_) fun _ => ?_ | refine egrd_dec (fun _ => ?_) fun _ => ?_))
          refine (token_wp h3 (by show s.pos + a < _; omega) h0 (by simp only [rwS, List.length_append, List.length_reverse, List.length_nil]; omega) (by show s.dep < 100000; omega)).mono fun v5 K5 h5 => ?_
          have hdt : src.drop (rwS s (insT s st t) (opT s st t).reverse a s.dep []).pos = t.drop (a) ++ u := hdr _ (by omega)
          rw [hdt, tokT_app hu (by simp; omega)] at h5
          repeat' (first | (simp (disch := first | omega | (decide +kernel) | (repeat first | assumption | exact HExt.refl _ | refine HExt.set ?_ (by first | omega | (simp only [new_nx, set_nx]; omega)) _ | refine HExt.new ?_ _)) only [↓RD, RU, accW_t, accW_f, isW, ↓putF_get, ↓putF_none, ↓evF_t, ↓evF_c, ↓evF_f, new_nx, set_nx, new_get, set_get, getD_zero, getD_succ, u_not, pop, lop, aop, wop, resL, resV, tupleV, akV, isVal, isCell, Value.cells, ρ0, ρ1, ρ2, ρ3, ρ4, ↓reduceIte, Nat.reduceEqDiff, Nat.reduceAdd, Int.reduceOfNat, Int.reduceNegSucc, reduceCtorEq, ρ5, ρ6, ρ7, ρ8, srcR_c, src_n, src_v, src_s, bnd, lenV, capV, ρ9, ρ10, ρ11, ρ12, ρ13, ρ14, ρ15, ρ16, ρ17, ρ18, ρ19, ρ20, ρ21, ρ22, ρ23, ρ24, Kd.isRo, ρ25, ρ26, bldV, Nat.reduceLeDiff, Int.reduceMul, Int.reduceAdd, Int.reduceSub, Int.reduceToNat, maxLen_eq, zeros_one, appS_some, appV_n, appV_v, appH_t, appH_f, Kd.isEx, ρ27, partV, CH.set_set, lkV, lkR, isKey, mupV, nxtV, ρ28, ρ29]) | (with_reducible first | refine condK_dec (fun _ => ?_) fun _ => ?_ | refine grd_dec (fun _ => ?_) fun _ => ?_ | refine egrd_dec (fun _ => ?_) fun _ => ?_))
          all_goals
            have hq := rwI_tok (A := A) (K := K5) (p := p) (src := src) (m := m) (st := st) (vo := vo3) hle' (fun g => g.2 (by rw [ha]; exact hhead)) hB0 (by rw [hb0]; omega) hln hsl hb (by omega) (by omega) (by rw [show 0 + blkN (t.drop 0) = a by omega]; exact h5)
            obtain ⟨q, hq1, hq2⟩ := hq
            exact ⟨q, by omega, hq2⟩
        · have e : indS (atS s a) st a = { atS s a with out := s.out ++ (indT s.line st a).1, opn := (indT s.line st a).2.reverse, err := 21, wh := s.line } := by
            unfold indS
            rw [if_neg (show ¬ (indT (atS s a).line st a).2.headD 0 = a from hhead)]
            rfl
          rw [e] at h3
          have hob3 := h3.ob
          have hpl3 := h3.pl
          have hr : rowT s.line t s.dep st = .error 21 := by
            unfold rowT
            rw [if_neg hle', if_pos ⟨hdz, by rw [ha]; exact hhead⟩]
          rw [hr]
          repeat' (first | (simp (disch := first | omega | (decide +kernel) | (repeat first | assumption | exact HExt.refl _ | refine HExt.set ?_ (by first | omega | (simp only [new_nx, set_nx]; omega)) _ | refine HExt.new ?_ _)) only [↓RD, RU, accW_t, accW_f, isW, ↓putF_get, ↓putF_none, ↓evF_t, ↓evF_c, ↓evF_f, new_nx, set_nx, new_get, set_get, getD_zero, getD_succ, u_not, pop, lop, aop, wop, resL, resV, tupleV, akV, isVal, isCell, Value.cells, ρ0, ρ1, ρ2, ρ3, ρ4, ↓reduceIte, Nat.reduceEqDiff, Nat.reduceAdd, Int.reduceOfNat, Int.reduceNegSucc, reduceCtorEq, ρ5, ρ6, ρ7, ρ8, srcR_c, src_n, src_v, src_s, bnd, lenV, capV, ρ9, ρ10, ρ11, ρ12, ρ13, ρ14, ρ15, ρ16, ρ17, ρ18, ρ19, ρ20, ρ21, ρ22, ρ23, ρ24, Kd.isRo, ρ25, ρ26, bldV, Nat.reduceLeDiff, Int.reduceMul, Int.reduceAdd, Int.reduceSub, Int.reduceToNat, maxLen_eq, zeros_one, appS_some, appV_n, appV_v, appH_t, appH_f, Kd.isEx, ρ27, partV, CH.set_set, lkV, lkR, isKey, mupV, nxtV, ρ28, ρ29, hag, hob3]) | (with_reducible first | refine condK_dec (fun _ => ?_) fun _ => ?_ | refine grd_dec (fun _ => ?_) fun _ => ?_ | refine egrd_dec (fun _ => ?_) fun _ => ?_))
          all_goals exact ⟨vo3, vt3, _, h3, rfl, rfl⟩
      · have e : atS s a = rwS s (insT s st t) (opT s st t).reverse a s.dep [] := by
          unfold insT opT
          rw [if_neg hdz, if_neg hdz, ← hst]
          simp [rwS, atS]
        rw [e] at h2
        repeat' (first | (simp (disch := first | omega | (decide +kernel) | (repeat first | assumption | exact HExt.refl _ | refine HExt.set ?_ (by first | omega | (simp only [new_nx, set_nx]; omega)) _ | refine HExt.new ?_ _)) only [↓RD, RU, accW_t, accW_f, isW, ↓putF_get, ↓putF_none, ↓evF_t, ↓evF_c, ↓evF_f, new_nx, set_nx, new_get, set_get, getD_zero, getD_succ, u_not, pop, lop, aop, wop, resL, resV, tupleV, akV, isVal, isCell, Value.cells, ρ0, ρ1, ρ2, ρ3, ρ4, ↓reduceIte, Nat.reduceEqDiff, Nat.reduceAdd, Int.reduceOfNat, Int.reduceNegSucc, reduceCtorEq, ρ5, ρ6, ρ7, ρ8, srcR_c, src_n, src_v, src_s, bnd, lenV, capV, ρ9, ρ10, ρ11, ρ12, ρ13, ρ14, ρ15, ρ16, ρ17, ρ18, ρ19, ρ20, ρ21, ρ22, ρ23, ρ24, Kd.isRo, ρ25, ρ26, bldV, Nat.reduceLeDiff, Int.reduceMul, Int.reduceAdd, Int.reduceSub, Int.reduceToNat, maxLen_eq, zeros_one, appS_some, appV_n, appV_v, appH_t, appH_f, Kd.isEx, ρ27, partV, CH.set_set, lkV, lkR, isKey, mupV, nxtV, ρ28, ρ29, hag, hob2, hpd2, str_size, str_get, hc, hc10, f4]) | (with_reducible first | refine condK_dec (fun _ => ?_) fun _ => ?_ | refine grd_dec (fun _ => ?_) fun _ => ?_ | refine egrd_dec (fun _ => ?_) fun _ => ?_))
        refine (token_wp h2 (by show s.pos + a < _; omega) h0 (by simp only [rwS, List.length_append, List.length_reverse, List.length_nil]; omega) (by show s.dep < 100000; omega)).mono fun v5 K5 h5 => ?_
        have hdt : src.drop (rwS s (insT s st t) (opT s st t).reverse a s.dep []).pos = t.drop (a) ++ u := hdr _ (by omega)
        rw [hdt, tokT_app hu (by simp; omega)] at h5
        repeat' (first | (simp (disch := first | omega | (decide +kernel) | (repeat first | assumption | exact HExt.refl _ | refine HExt.set ?_ (by first | omega | (simp only [new_nx, set_nx]; omega)) _ | refine HExt.new ?_ _)) only [↓RD, RU, accW_t, accW_f, isW, ↓putF_get, ↓putF_none, ↓evF_t, ↓evF_c, ↓evF_f, new_nx, set_nx, new_get, set_get, getD_zero, getD_succ, u_not, pop, lop, aop, wop, resL, resV, tupleV, akV, isVal, isCell, Value.cells, ρ0, ρ1, ρ2, ρ3, ρ4, ↓reduceIte, Nat.reduceEqDiff, Nat.reduceAdd, Int.reduceOfNat, Int.reduceNegSucc, reduceCtorEq, ρ5, ρ6, ρ7, ρ8, srcR_c, src_n, src_v, src_s, bnd, lenV, capV, ρ9, ρ10, ρ11, ρ12, ρ13, ρ14, ρ15, ρ16, ρ17, ρ18, ρ19, ρ20, ρ21, ρ22, ρ23, ρ24, Kd.isRo, ρ25, ρ26, bldV, Nat.reduceLeDiff, Int.reduceMul, Int.reduceAdd, Int.reduceSub, Int.reduceToNat, maxLen_eq, zeros_one, appS_some, appV_n, appV_v, appH_t, appH_f, Kd.isEx, ρ27, partV, CH.set_set, lkV, lkR, isKey, mupV, nxtV, ρ28, ρ29]) | (with_reducible first | refine condK_dec (fun _ => ?_) fun _ => ?_ | refine grd_dec (fun _ => ?_) fun _ => ?_ | refine egrd_dec (fun _ => ?_) fun _ => ?_))
        all_goals
          have hq := rwI_tok (A := A) (K := K5) (p := p) (src := src) (m := m) (st := st) (vo := vo1) hle' (fun g => hdz g.1) hB0 (by rw [hb0]; omega) hln hsl hb (by omega) (by omega) (by rw [show 0 + blkN (t.drop 0) = a by omega]; exact h5)
          obtain ⟨q, hq1, hq2⟩ := hq
          exact ⟨q, by omega, hq2⟩
  · have hob1 := h1.ob
    have hpl1 := h1.pl
    have he1 : (rwS s (insT s st t) (opT s st t).reverse j d ts).err = 0 := h0
    have hjl := hB.jl
    have hdl := hB.dl
    have htl := hB.tl
    repeat' (first | (simp (disch := first | omega | (decide +kernel) | (repeat first | assumption | exact HExt.refl _ | refine HExt.set ?_ (by first | omega | (simp only [new_nx, set_nx]; omega)) _ | refine HExt.new ?_ _)) only [↓RD, RU, accW_t, accW_f, isW, ↓putF_get, ↓putF_none, ↓evF_t, ↓evF_c, ↓evF_f, new_nx, set_nx, new_get, set_get, getD_zero, getD_succ, u_not, pop, lop, aop, wop, resL, resV, tupleV, akV, isVal, isCell, Value.cells, ρ0, ρ1, ρ2, ρ3, ρ4, ↓reduceIte, Nat.reduceEqDiff, Nat.reduceAdd, Int.reduceOfNat, Int.reduceNegSucc, reduceCtorEq, ρ5, ρ6, ρ7, ρ8, srcR_c, src_n, src_v, src_s, bnd, lenV, capV, ρ9, ρ10, ρ11, ρ12, ρ13, ρ14, ρ15, ρ16, ρ17, ρ18, ρ19, ρ20, ρ21, ρ22, ρ23, ρ24, Kd.isRo, ρ25, ρ26, bldV, Nat.reduceLeDiff, Int.reduceMul, Int.reduceAdd, Int.reduceSub, Int.reduceToNat, maxLen_eq, zeros_one, appS_some, appV_n, appV_v, appH_t, appH_f, Kd.isEx, ρ27, partV, CH.set_set, lkV, lkR, isKey, mupV, nxtV, ρ28, ρ29, hag, hob1, he1]) | (with_reducible first | refine condK_dec (fun _ => ?_) fun _ => ?_ | refine grd_dec (fun _ => ?_) fun _ => ?_ | refine egrd_dec (fun _ => ?_) fun _ => ?_))
    refine (blank_wp h1 (by show s.pos + j ≤ _; omega)).mono fun v2 K2 h2 => ?_
    have hd0 : src.drop (rwS s (insT s st t) (opT s st t).reverse j d ts).pos = t.drop j ++ u := hdr j hjl
    rw [hd0, blkN_app hu] at h2
    obtain ⟨a, ha⟩ : ∃ a, blkN (t.drop j) = a := ⟨_, rfl⟩
    have hal := blkN_len (t := t.drop j)
    simp only [List.length_drop] at hal
    rw [ha] at h2 hal
    have e : atS (rwS s (insT s st t) (opT s st t).reverse j d ts) a = rwS s (insT s st t) (opT s st t).reverse (j + a) d ts := by
      simp only [atS, rwS, RS.mk.injEq, and_true, true_and]; omega
    rw [e] at h2
    have hob2 := h2.ob
    have hpl2 := h2.pl
    have hpd2 : (rwS s (insT s st t) (opT s st t).reverse (j + a) d ts).pos = s.pos + (j + a) := rfl
    have hdd2 : (rwS s (insT s st t) (opT s st t).reverse (j + a) d ts).dep = d := rfl
    have hll2 : (rwS s (insT s st t) (opT s st t).reverse (j + a) d ts).line = s.line := rfl
    by_cases hle : t.length ≤ j + a
    · have hae : j + a = t.length := by omega
      have htoks := hB.fin (by rw [ha]; simp; omega)
      have hr : rowT s.line t s.dep st = .ok (insT s st t ++ ts ++ (if d = 0 then [⟨1, s.line, []⟩] else []), d, opT s st t) := by
        unfold rowT
        rw [if_neg hne, if_neg hok, htoks]
        rfl
      rw [hr]
      rw [hae] at h2 hob2 hpd2 hdd2 hll2
      by_cases hdz : d = 0
      · have hfin : ∀ K3 vt3, RdAt A K3 p src (putS (rwS s (insT s st t) (opT s st t).reverse t.length d ts) 1 s.line []) vo1 vt3 m → RowOut A K3 p src s m t (.ok (insT s st t ++ ts ++ [⟨1, s.line, []⟩], d, opT s st t)) := fun K3 vt3 g => by
          refine ⟨vo1, vt3, ?_⟩
          have : (putS (rwS s (insT s st t) (opT s st t).reverse t.length d ts) 1 s.line []) = { s with pos := s.pos + t.length, dep := d, opn := (opT s st t).reverse, out := s.out ++ (insT s st t ++ ts ++ [⟨1, s.line, []⟩]) } := by simp [putS, rwS]
          rw [← this]; exact g
        rw [if_pos hdz]
        rcases hout with g | g
        · repeat' (first | (simp (disch := first | omega | (decide +kernel) | (repeat first | assumption | exact HExt.refl _ | refine HExt.set ?_ (by first | omega | (simp only [new_nx, set_nx]; omega)) _ | refine HExt.new ?_ _)) only [↓RD, RU, accW_t, accW_f, isW, ↓putF_get, ↓putF_none, ↓evF_t, ↓evF_c, ↓evF_f, new_nx, set_nx, new_get, set_get, getD_zero, getD_succ, u_not, pop, lop, aop, wop, resL, resV, tupleV, akV, isVal, isCell, Value.cells, ρ0, ρ1, ρ2, ρ3, ρ4, ↓reduceIte, Nat.reduceEqDiff, Nat.reduceAdd, Int.reduceOfNat, Int.reduceNegSucc, reduceCtorEq, ρ5, ρ6, ρ7, ρ8, srcR_c, src_n, src_v, src_s, bnd, lenV, capV, ρ9, ρ10, ρ11, ρ12, ρ13, ρ14, ρ15, ρ16, ρ17, ρ18, ρ19, ρ20, ρ21, ρ22, ρ23, ρ24, Kd.isRo, ρ25, ρ26, bldV, Nat.reduceLeDiff, Int.reduceMul, Int.reduceAdd, Int.reduceSub, Int.reduceToNat, maxLen_eq, zeros_one, appS_some, appV_n, appV_v, appH_t, appH_f, Kd.isEx, ρ27, partV, CH.set_set, lkV, lkR, isKey, mupV, nxtV, ρ28, ρ29, hag, hob2, hpd2, hdd2, hll2, str_size, f4]) | (with_reducible first | refine condK_dec (fun _ => ?_) fun _ => ?_ | refine grd_dec (fun _ => ?_) fun _ => ?_ | refine egrd_dec (fun _ => ?_) fun _ => ?_))
          all_goals
            refine (put_wp h2 1 s.line [] (by simp only [rwS, List.length_append, List.length_reverse, List.length_nil]; omega)).mono fun v5 K5 ⟨vt5, h5⟩ => ?_
            repeat' (first | (simp (disch := first | omega | (decide +kernel) | (repeat first | assumption | exact HExt.refl _ | refine HExt.set ?_ (by first | omega | (simp only [new_nx, set_nx]; omega)) _ | refine HExt.new ?_ _)) only [↓RD, RU, accW_t, accW_f, isW, ↓putF_get, ↓putF_none, ↓evF_t, ↓evF_c, ↓evF_f, new_nx, set_nx, new_get, set_get, getD_zero, getD_succ, u_not, pop, lop, aop, wop, resL, resV, tupleV, akV, isVal, isCell, Value.cells, ρ0, ρ1, ρ2, ρ3, ρ4, ↓reduceIte, Nat.reduceEqDiff, Nat.reduceAdd, Int.reduceOfNat, Int.reduceNegSucc, reduceCtorEq, ρ5, ρ6, ρ7, ρ8, srcR_c, src_n, src_v, src_s, bnd, lenV, capV, ρ9, ρ10, ρ11, ρ12, ρ13, ρ14, ρ15, ρ16, ρ17, ρ18, ρ19, ρ20, ρ21, ρ22, ρ23, ρ24, Kd.isRo, ρ25, ρ26, bldV, Nat.reduceLeDiff, Int.reduceMul, Int.reduceAdd, Int.reduceSub, Int.reduceToNat, maxLen_eq, zeros_one, appS_some, appV_n, appV_v, appH_t, appH_f, Kd.isEx, ρ27, partV, CH.set_set, lkV, lkR, isKey, mupV, nxtV, ρ28, ρ29]) | (with_reducible first | refine condK_dec (fun _ => ?_) fun _ => ?_ | refine grd_dec (fun _ => ?_) fun _ => ?_ | refine egrd_dec (fun _ => ?_) fun _ => ?_))
            all_goals exact hfin _ _ h5
        · repeat' (first | (simp (disch := first | omega | (decide +kernel) | (repeat first | assumption | exact HExt.refl _ | refine HExt.set ?_ (by first | omega | (simp only [new_nx, set_nx]; omega)) _ | refine HExt.new ?_ _)) only [↓RD, RU, accW_t, accW_f, isW, ↓putF_get, ↓putF_none, ↓evF_t, ↓evF_c, ↓evF_f, new_nx, set_nx, new_get, set_get, getD_zero, getD_succ, u_not, pop, lop, aop, wop, resL, resV, tupleV, akV, isVal, isCell, Value.cells, ρ0, ρ1, ρ2, ρ3, ρ4, ↓reduceIte, Nat.reduceEqDiff, Nat.reduceAdd, Int.reduceOfNat, Int.reduceNegSucc, reduceCtorEq, ρ5, ρ6, ρ7, ρ8, srcR_c, src_n, src_v, src_s, bnd, lenV, capV, ρ9, ρ10, ρ11, ρ12, ρ13, ρ14, ρ15, ρ16, ρ17, ρ18, ρ19, ρ20, ρ21, ρ22, ρ23, ρ24, Kd.isRo, ρ25, ρ26, bldV, Nat.reduceLeDiff, Int.reduceMul, Int.reduceAdd, Int.reduceSub, Int.reduceToNat, maxLen_eq, zeros_one, appS_some, appV_n, appV_v, appH_t, appH_f, Kd.isEx, ρ27, partV, CH.set_set, lkV, lkR, isKey, mupV, nxtV, ρ28, ρ29, hag, hob2, hpd2, hdd2, hll2, str_size, str_get, g, f4]) | (with_reducible first | refine condK_dec (fun _ => ?_) fun _ => ?_ | refine grd_dec (fun _ => ?_) fun _ => ?_ | refine egrd_dec (fun _ => ?_) fun _ => ?_))
          all_goals
            refine (put_wp h2 1 s.line [] (by simp only [rwS, List.length_append, List.length_reverse, List.length_nil]; omega)).mono fun v5 K5 ⟨vt5, h5⟩ => ?_
            repeat' (first | (simp (disch := first | omega | (decide +kernel) | (repeat first | assumption | exact HExt.refl _ | refine HExt.set ?_ (by first | omega | (simp only [new_nx, set_nx]; omega)) _ | refine HExt.new ?_ _)) only [↓RD, RU, accW_t, accW_f, isW, ↓putF_get, ↓putF_none, ↓evF_t, ↓evF_c, ↓evF_f, new_nx, set_nx, new_get, set_get, getD_zero, getD_succ, u_not, pop, lop, aop, wop, resL, resV, tupleV, akV, isVal, isCell, Value.cells, ρ0, ρ1, ρ2, ρ3, ρ4, ↓reduceIte, Nat.reduceEqDiff, Nat.reduceAdd, Int.reduceOfNat, Int.reduceNegSucc, reduceCtorEq, ρ5, ρ6, ρ7, ρ8, srcR_c, src_n, src_v, src_s, bnd, lenV, capV, ρ9, ρ10, ρ11, ρ12, ρ13, ρ14, ρ15, ρ16, ρ17, ρ18, ρ19, ρ20, ρ21, ρ22, ρ23, ρ24, Kd.isRo, ρ25, ρ26, bldV, Nat.reduceLeDiff, Int.reduceMul, Int.reduceAdd, Int.reduceSub, Int.reduceToNat, maxLen_eq, zeros_one, appS_some, appV_n, appV_v, appH_t, appH_f, Kd.isEx, ρ27, partV, CH.set_set, lkV, lkR, isKey, mupV, nxtV, ρ28, ρ29]) | (with_reducible first | refine condK_dec (fun _ => ?_) fun _ => ?_ | refine grd_dec (fun _ => ?_) fun _ => ?_ | refine egrd_dec (fun _ => ?_) fun _ => ?_))
            all_goals exact hfin _ _ h5
      · rw [if_neg hdz, List.append_nil]
        have hfin : RowOut A K2 p src s m t (.ok (insT s st t ++ ts, d, opT s st t)) := by
          refine ⟨vo1, vt1, ?_⟩
          rw [← List.append_assoc]
          exact h2
        rcases hout with g | g
        · repeat' (first | (simp (disch := first | omega | (decide +kernel) | (repeat first | assumption | exact HExt.refl _ | refine HExt.set ?_ (by first | omega | (simp only [new_nx, set_nx]; omega)) _ | refine HExt.new ?_ _)) only [↓RD, RU, accW_t, accW_f, isW, ↓putF_get, ↓putF_none, ↓evF_t, ↓evF_c, ↓evF_f, new_nx, set_nx, new_get, set_get, getD_zero, getD_succ, u_not, pop, lop, aop, wop, resL, resV, tupleV, akV, isVal, isCell, Value.cells, ρ0, ρ1, ρ2, ρ3, ρ4, ↓reduceIte, Nat.reduceEqDiff, Nat.reduceAdd, Int.reduceOfNat, Int.reduceNegSucc, reduceCtorEq, ρ5, ρ6, ρ7, ρ8, srcR_c, src_n, src_v, src_s, bnd, lenV, capV, ρ9, ρ10, ρ11, ρ12, ρ13, ρ14, ρ15, ρ16, ρ17, ρ18, ρ19, ρ20, ρ21, ρ22, ρ23, ρ24, Kd.isRo, ρ25, ρ26, bldV, Nat.reduceLeDiff, Int.reduceMul, Int.reduceAdd, Int.reduceSub, Int.reduceToNat, maxLen_eq, zeros_one, appS_some, appV_n, appV_v, appH_t, appH_f, Kd.isEx, ρ27, partV, CH.set_set, lkV, lkR, isKey, mupV, nxtV, ρ28, ρ29, hag, hob2, hpd2, hdd2, str_size, f4]) | (with_reducible first | refine condK_dec (fun _ => ?_) fun _ => ?_ | refine grd_dec (fun _ => ?_) fun _ => ?_ | refine egrd_dec (fun _ => ?_) fun _ => ?_))
          all_goals exact hfin
        · repeat' (first | (simp (disch := first | omega | (decide +kernel) | (repeat first | assumption | exact HExt.refl _ | refine HExt.set ?_ (by first | omega | (simp only [new_nx, set_nx]; omega)) _ | refine HExt.new ?_ _)) only [↓RD, RU, accW_t, accW_f, isW, ↓putF_get, ↓putF_none, ↓evF_t, ↓evF_c, ↓evF_f, new_nx, set_nx, new_get, set_get, getD_zero, getD_succ, u_not, pop, lop, aop, wop, resL, resV, tupleV, akV, isVal, isCell, Value.cells, ρ0, ρ1, ρ2, ρ3, ρ4, ↓reduceIte, Nat.reduceEqDiff, Nat.reduceAdd, Int.reduceOfNat, Int.reduceNegSucc, reduceCtorEq, ρ5, ρ6, ρ7, ρ8, srcR_c, src_n, src_v, src_s, bnd, lenV, capV, ρ9, ρ10, ρ11, ρ12, ρ13, ρ14, ρ15, ρ16, ρ17, ρ18, ρ19, ρ20, ρ21, ρ22, ρ23, ρ24, Kd.isRo, ρ25, ρ26, bldV, Nat.reduceLeDiff, Int.reduceMul, Int.reduceAdd, Int.reduceSub, Int.reduceToNat, maxLen_eq, zeros_one, appS_some, appV_n, appV_v, appH_t, appH_f, Kd.isEx, ρ27, partV, CH.set_set, lkV, lkR, isKey, mupV, nxtV, ρ28, ρ29, hag, hob2, hpd2, hdd2, str_size, str_get, g, f4]) | (with_reducible first | refine condK_dec (fun _ => ?_) fun _ => ?_ | refine grd_dec (fun _ => ?_) fun _ => ?_ | refine egrd_dec (fun _ => ?_) fun _ => ?_))
          all_goals exact hfin
    · obtain ⟨c, hc, hc10⟩ := hin (j + a) (by omega)
      repeat' (first | (simp (disch := first | omega | (decide +kernel) | (repeat first | assumption | exact HExt.refl _ | refine HExt.set ?_ (by first | omega | (simp only [new_nx, set_nx]; omega)) _ | refine HExt.new ?_ _)) only [↓RD, RU, accW_t, accW_f, isW, ↓putF_get, ↓putF_none, ↓evF_t, ↓evF_c, ↓evF_f, new_nx, set_nx, new_get, set_get, getD_zero, getD_succ, u_not, pop, lop, aop, wop, resL, resV, tupleV, akV, isVal, isCell, Value.cells, ρ0, ρ1, ρ2, ρ3, ρ4, ↓reduceIte, Nat.reduceEqDiff, Nat.reduceAdd, Int.reduceOfNat, Int.reduceNegSucc, reduceCtorEq, ρ5, ρ6, ρ7, ρ8, srcR_c, src_n, src_v, src_s, bnd, lenV, capV, ρ9, ρ10, ρ11, ρ12, ρ13, ρ14, ρ15, ρ16, ρ17, ρ18, ρ19, ρ20, ρ21, ρ22, ρ23, ρ24, Kd.isRo, ρ25, ρ26, bldV, Nat.reduceLeDiff, Int.reduceMul, Int.reduceAdd, Int.reduceSub, Int.reduceToNat, maxLen_eq, zeros_one, appS_some, appV_n, appV_v, appH_t, appH_f, Kd.isEx, ρ27, partV, CH.set_set, lkV, lkR, isKey, mupV, nxtV, ρ28, ρ29, hag, hob2, hpd2, str_size, str_get, hc, hc10, f4]) | (with_reducible first | refine condK_dec (fun _ => ?_) fun _ => ?_ | refine grd_dec (fun _ => ?_) fun _ => ?_ | refine egrd_dec (fun _ => ?_) fun _ => ?_))
      refine (token_wp h2 (by show s.pos + (j + a) < _; omega) h0 (by simp only [rwS, List.length_append, List.length_reverse, List.length_nil]; omega) (by show d < 100000; omega)).mono fun v5 K5 h5 => ?_
      have hdt : src.drop (rwS s (insT s st t) (opT s st t).reverse (j + a) d ts).pos = t.drop (j + a) ++ u := hdr _ (by omega)
      rw [hdt, tokT_app hu (by simp; omega)] at h5
      repeat' (first | (simp (disch := first | omega | (decide +kernel) | (repeat first | assumption | exact HExt.refl _ | refine HExt.set ?_ (by first | omega | (simp only [new_nx, set_nx]; omega)) _ | refine HExt.new ?_ _)) only [↓RD, RU, accW_t, accW_f, isW, ↓putF_get, ↓putF_none, ↓evF_t, ↓evF_c, ↓evF_f, new_nx, set_nx, new_get, set_get, getD_zero, getD_succ, u_not, pop, lop, aop, wop, resL, resV, tupleV, akV, isVal, isCell, Value.cells, ρ0, ρ1, ρ2, ρ3, ρ4, ↓reduceIte, Nat.reduceEqDiff, Nat.reduceAdd, Int.reduceOfNat, Int.reduceNegSucc, reduceCtorEq, ρ5, ρ6, ρ7, ρ8, srcR_c, src_n, src_v, src_s, bnd, lenV, capV, ρ9, ρ10, ρ11, ρ12, ρ13, ρ14, ρ15, ρ16, ρ17, ρ18, ρ19, ρ20, ρ21, ρ22, ρ23, ρ24, Kd.isRo, ρ25, ρ26, bldV, Nat.reduceLeDiff, Int.reduceMul, Int.reduceAdd, Int.reduceSub, Int.reduceToNat, maxLen_eq, zeros_one, appS_some, appV_n, appV_v, appH_t, appH_f, Kd.isEx, ρ27, partV, CH.set_set, lkV, lkR, isKey, mupV, nxtV, ρ28, ρ29]) | (with_reducible first | refine condK_dec (fun _ => ?_) fun _ => ?_ | refine grd_dec (fun _ => ?_) fun _ => ?_ | refine egrd_dec (fun _ => ?_) fun _ => ?_))
      all_goals
        have hq := rwI_tok (A := A) (K := K5) (p := p) (src := src) (m := m) (st := st) (vo := vo1) hne hok hB (by rw [ha]; omega) hln hsl hb (by omega) (by omega) (by rw [ha]; exact h5)
        obtain ⟨q, hq1, hq2⟩ := hq
        exact ⟨q, by omega, hq2⟩
  · have hob1 := h1.ob
    have hpl1 := h1.pl
    have hr : rowT s.line t s.dep st = .error 20 := by
      unfold rowT
      rw [if_neg hne, if_neg hok, hno]
    rw [hr]
    by_cases hdz : s'.dep = 0
    · repeat' (first | (simp (disch := first | omega | (decide +kernel) | (repeat first | assumption | exact HExt.refl _ | refine HExt.set ?_ (by first | omega | (simp only [new_nx, set_nx]; omega)) _ | refine HExt.new ?_ _)) only [↓RD, RU, accW_t, accW_f, isW, ↓putF_get, ↓putF_none, ↓evF_t, ↓evF_c, ↓evF_f, new_nx, set_nx, new_get, set_get, getD_zero, getD_succ, u_not, pop, lop, aop, wop, resL, resV, tupleV, akV, isVal, isCell, Value.cells, ρ0, ρ1, ρ2, ρ3, ρ4, ↓reduceIte, Nat.reduceEqDiff, Nat.reduceAdd, Int.reduceOfNat, Int.reduceNegSucc, reduceCtorEq, ρ5, ρ6, ρ7, ρ8, srcR_c, src_n, src_v, src_s, bnd, lenV, capV, ρ9, ρ10, ρ11, ρ12, ρ13, ρ14, ρ15, ρ16, ρ17, ρ18, ρ19, ρ20, ρ21, ρ22, ρ23, ρ24, Kd.isRo, ρ25, ρ26, bldV, Nat.reduceLeDiff, Int.reduceMul, Int.reduceAdd, Int.reduceSub, Int.reduceToNat, maxLen_eq, zeros_one, appS_some, appV_n, appV_v, appH_t, appH_f, Kd.isEx, ρ27, partV, CH.set_set, lkV, lkR, isKey, mupV, nxtV, ρ28, ρ29, hag, hob1, he', f4]) | (with_reducible first | refine condK_dec (fun _ => ?_) fun _ => ?_ | refine grd_dec (fun _ => ?_) fun _ => ?_ | refine egrd_dec (fun _ => ?_) fun _ => ?_))
      all_goals
        refine (put_wp h1 1 s'.line [] (by omega)).mono fun v5 K5 ⟨vt5, h5⟩ => ?_
        repeat' (first | (simp (disch := first | omega | (decide +kernel) | (repeat first | assumption | exact HExt.refl _ | refine HExt.set ?_ (by first | omega | (simp only [new_nx, set_nx]; omega)) _ | refine HExt.new ?_ _)) only [↓RD, RU, accW_t, accW_f, isW, ↓putF_get, ↓putF_none, ↓evF_t, ↓evF_c, ↓evF_f, new_nx, set_nx, new_get, set_get, getD_zero, getD_succ, u_not, pop, lop, aop, wop, resL, resV, tupleV, akV, isVal, isCell, Value.cells, ρ0, ρ1, ρ2, ρ3, ρ4, ↓reduceIte, Nat.reduceEqDiff, Nat.reduceAdd, Int.reduceOfNat, Int.reduceNegSucc, reduceCtorEq, ρ5, ρ6, ρ7, ρ8, srcR_c, src_n, src_v, src_s, bnd, lenV, capV, ρ9, ρ10, ρ11, ρ12, ρ13, ρ14, ρ15, ρ16, ρ17, ρ18, ρ19, ρ20, ρ21, ρ22, ρ23, ρ24, Kd.isRo, ρ25, ρ26, bldV, Nat.reduceLeDiff, Int.reduceMul, Int.reduceAdd, Int.reduceSub, Int.reduceToNat, maxLen_eq, zeros_one, appS_some, appV_n, appV_v, appH_t, appH_f, Kd.isEx, ρ27, partV, CH.set_set, lkV, lkR, isKey, mupV, nxtV, ρ28, ρ29]) | (with_reducible first | refine condK_dec (fun _ => ?_) fun _ => ?_ | refine grd_dec (fun _ => ?_) fun _ => ?_ | refine egrd_dec (fun _ => ?_) fun _ => ?_))
        all_goals exact ⟨vo1, vt5, _, h5, he', hw'⟩
    · repeat' (first | (simp (disch := first | omega | (decide +kernel) | (repeat first | assumption | exact HExt.refl _ | refine HExt.set ?_ (by first | omega | (simp only [new_nx, set_nx]; omega)) _ | refine HExt.new ?_ _)) only [↓RD, RU, accW_t, accW_f, isW, ↓putF_get, ↓putF_none, ↓evF_t, ↓evF_c, ↓evF_f, new_nx, set_nx, new_get, set_get, getD_zero, getD_succ, u_not, pop, lop, aop, wop, resL, resV, tupleV, akV, isVal, isCell, Value.cells, ρ0, ρ1, ρ2, ρ3, ρ4, ↓reduceIte, Nat.reduceEqDiff, Nat.reduceAdd, Int.reduceOfNat, Int.reduceNegSucc, reduceCtorEq, ρ5, ρ6, ρ7, ρ8, srcR_c, src_n, src_v, src_s, bnd, lenV, capV, ρ9, ρ10, ρ11, ρ12, ρ13, ρ14, ρ15, ρ16, ρ17, ρ18, ρ19, ρ20, ρ21, ρ22, ρ23, ρ24, Kd.isRo, ρ25, ρ26, bldV, Nat.reduceLeDiff, Int.reduceMul, Int.reduceAdd, Int.reduceSub, Int.reduceToNat, maxLen_eq, zeros_one, appS_some, appV_n, appV_v, appH_t, appH_f, Kd.isEx, ρ27, partV, CH.set_set, lkV, lkR, isKey, mupV, nxtV, ρ28, ρ29, hag, hob1, he', f4]) | (with_reducible first | refine condK_dec (fun _ => ?_) fun _ => ?_ | refine grd_dec (fun _ => ?_) fun _ => ?_ | refine egrd_dec (fun _ => ?_) fun _ => ?_))
      all_goals exact ⟨vo1, vt1, _, h1, he', hw'⟩
end Can
end Go.Proofs.Ytmglmoehlegojaa
