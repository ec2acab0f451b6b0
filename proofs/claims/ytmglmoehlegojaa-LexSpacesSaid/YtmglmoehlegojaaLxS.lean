/- Lex: the reader in memory; its small steps. -/
import Derived.Test.YtmglmoehlegojaaLxF
import Derived.Test.YtmglmoehlegojaaLxK
namespace Go.Proofs.Ytmglmoehlegojaa
namespace Can
open Go Go.RowKit
set_option linter.unusedSimpArgs false
set_option linter.unusedVariables false
set_option maxRecDepth 4000
abbrev str (l : List UInt8) : ByteArray := ⟨⟨l⟩⟩
def tokC (t : Tok) : List Value := [.int .i64 t.kind, .int .i64 t.line, .string (str t.text)]
theorem tokC_ok : ∀ t, (tokC t).length = 3 ∧ (tokC t).all isCell = true := fun _ => ⟨rfl, rfl⟩
theorem zeros3 {a b c : Value} : zeros [a, b, c] 3 = [a, b, c] := by simp [zeros, List.range, List.range.loop]
theorem n1 {a : Nat} : ((a : Int) + 1) = ((a + 1 : Nat) : Int) := rfl
theorem u8k {n : Nat} {h : n < 2 ^ 8} : (UInt8.ofBitVec (BitVec.ofFin ⟨n, h⟩)) = UInt8.ofNat n := by
  apply UInt8.toNat.inj
  simp [UInt8.toNat, UInt8.ofNat]
  omega
theorem str_get {l : List UInt8} {i : Nat} : (str l)[i]? = l[i]? := by
  show (if h : i < (str l).size then some ((str l)[i]'h) else none) = _
  by_cases h : i < l.length
  · have h' : i < (str l).size := h
    rw [dif_pos h', List.getElem?_eq_getElem h]; rfl
  · have h' : ¬ i < (str l).size := h
    rw [dif_neg h', List.getElem?_eq_none (by omega)]
theorem str_size {l : List UInt8} : (str l).size = l.length := rfl
theorem str_ext {l : List UInt8} {a b : Nat} : (str l).extract a b = str ((l.drop a).take (b - a)) := by
  apply ByteArray.ext
  apply Array.ext'
  simp [ByteArray.data_extract, List.extract_eq_take_drop]
theorem beq_str {a b : List UInt8} : ((str a).toList == (str b).toList) = decide (a = b) := by
  have h : ∀ l : List UInt8, (str l).toList = l := fun l => by simp [ByteArray.toList_eq]
  rw [h, h]
  by_cases e : a = b
  · simp [e]
  · rw [decide_eq_false e]; simpa using e
theorem str_eq {a b : List UInt8} : svOf (binOp .eql 0 (.string (str a)) (.string (str b))) = some (.bool (decide (a = b))) := by
  simp only [binOp, Op.stringOp, svOf, Pure.pure, beq_str]
/-- What a reader is. -/
structure RS where
  pos : Nat
  line : Nat
  dep : Nat
  opn : List Nat
  out : List Tok
  err : Nat
  wh : Nat
structure RS.Bd (s : RS) : Prop where
  pos : s.pos ≤ 100000
  line : s.line ≤ 100000
  dep : s.dep ≤ 100000
  err : s.err ≤ 100
  wh : s.wh ≤ 100000
  out : s.out.length + s.opn.length ≤ 1000000
def OpnAt (A K : CH) (v : Value) (ns : List Nat) : Prop := ∃ b kd c os, v = .slice (some ⟨b, 0, none⟩) ns.length c ∧ A.nx ≤ b ∧ b < K.nx ∧ K.ob b = .cells os 3 kd ∧ kd.isRo = false ∧ ns.length ≤ c ∧ c ≤ 2000000 ∧ ns.length ≤ os.length ∧ ∀ i, i < ns.length → os[i]? = some (.int .i64 (ns.getD i 0 : Nat))
def wordsM : Array MapEntry := ((wordsL.zipIdx).map fun x => ({ key := .string (str x.1), val := .int .i64 1, born := x.2 } : MapEntry)).toArray
structure RdAt (A K : CH) (p : Nat) (src : List UInt8) (s : RS) (vo vt : Value) (m : Nat) : Prop where
  ob : K.ob p = .cells [.string (str src), .int .i64 s.pos, .int .i64 s.line, .int .i64 s.dep, vo, vt, .map (some m), .int .i64 s.err, .int .i64 s.wh] 44 .ex
  pl : p < K.nx
  pa : A.nx ≤ p
  opn : OpnAt A K vo s.opn
  out : Grw A 33 3 tokC K vt s.out
  mp : K.ob m = .map wordsM 31
  ml : m < K.nx
  ma : A.nx ≤ m
  E : HExt A K
  bd : s.Bd
  sl : src.length ≤ 20000
theorem RdAt.mv {A K K' : CH} {p : Nat} {src : List UInt8} {s : RS} {vo vt : Value} {m : Nat} (h : RdAt A K p src s vo vt m) (hx : HExt K K') : RdAt A K' p src s vo vt m := by
  obtain ⟨b, kd, c, os, h1, h2, h3, h4, h5⟩ := h.opn
  exact ⟨(hx.ob _ h.pl).trans h.ob, Nat.lt_of_lt_of_le h.pl hx.nx, h.pa, ⟨b, kd, c, os, h1, h2, Nat.lt_of_lt_of_le h3 hx.nx, (hx.ob _ h3).trans h4, h5⟩, h.out.ext hx, (hx.ob _ h.ml).trans h.mp, Nat.lt_of_lt_of_le h.ml hx.nx, h.ma, h.E.trans hx, h.bd, h.sl⟩
/-- Fields are laid; what is open and what is out stays. -/
theorem RdAt.set {A K : CH} {p : Nat} {src : List UInt8} {s s' : RS} {vo vt : Value} {m : Nat} (h : RdAt A K p src s vo vt m) (ho : s'.opn = s.opn) (ht : s'.out = s.out) (hb : s'.Bd) :
    RdAt A (K.set p (.cells [.string (str src), .int .i64 s'.pos, .int .i64 s'.line, .int .i64 s'.dep, vo, vt, .map (some m), .int .i64 s'.err, .int .i64 s'.wh] 44 .ex)) p src s' vo vt m := by
  have hob := h.ob
  obtain ⟨b, kd, c, os, h1, h2, h3, h4, h5⟩ := h.opn
  have hbp : b ≠ p := fun e => by
    rw [e, hob] at h4
    have := (CObj.cells.inj h4).2.1
    revert this; decide
  have hmp : m ≠ p := fun e => by have := h.mp; rw [e, hob] at this; cases this
  refine ⟨by rw [set_get, if_pos rfl], h.pl, h.pa, ?_, ?_, by rw [set_get, if_neg hmp]; exact h.mp, h.ml, h.ma, h.E.set h.pa _, hb, h.sl⟩
  · rw [ho]
    exact ⟨b, kd, c, os, h1, h2, h3, by rw [set_get, if_neg hbp]; exact h4, h5⟩
  · rw [ht]
    rcases h.out with g | ⟨b, kd, e, g1, g2, g3, g4⟩
    · exact .inl g
    · refine .inr ⟨b, kd, e, g1, g2, ?_, g4⟩
      rw [set_get, if_neg]
      · exact g3
      · intro e
        rw [e, hob] at g3
        have := (CObj.cells.inj g3).2.1
        revert this; decide
def failS (s : RS) (line e : Nat) : RS := if s.err = 0 then { s with err := e, wh := line } else s
theorem fail_wp {A K : CH} {p : Nat} {src : List UInt8} {s : RS} {vo vt : Value} {m : Nat} (h : RdAt A K p src s vo vt m) (line e : Nat) (h1 : line ≤ 100000) (h2 : e ≤ 100) :
    WpF (tblG Try.prog LG GG) 32 [.pointer (some ⟨p, 0, none⟩), .int .i64 line, .int .i64 e] K fun v K' => RdAt A K' p src (failS s line e) vo vt m := by
  have hob := h.ob
  have hp := h.pl
  refine wpF_rG (by rfl) (by kernel_rfl) ?_; (conv in (rF _ _).body => reduce); (conv in (rF _ _).res => reduce)
  by_cases he : s.err = 0
  · repeat' (first | (simp (disch := first | omega | (decide +kernel) | (repeat first | assumption | exact HExt.refl _ | refine HExt.set ?_ (by first | omega | (simp only [new_nx, set_nx]; omega)) _ | refine HExt.new ?_ _)) only [↓RD, RU, accW_t, accW_f, isW, ↓putF_get, ↓putF_none, ↓evF_t, ↓evF_c, ↓evF_f, new_nx, set_nx, new_get, set_get, getD_zero, getD_succ, u_not, pop, lop, aop, wop, resL, resV, tupleV, akV, isVal, isCell, Value.cells, ρ0, ρ1, ρ2, ρ3, ρ4, ↓reduceIte, Nat.reduceEqDiff, Nat.reduceAdd, Int.reduceOfNat, Int.reduceNegSucc, reduceCtorEq, ρ5, ρ6, ρ7, ρ8, srcR_c, src_n, src_v, src_s, bnd, lenV, capV, ρ9, ρ10, ρ11, ρ12, ρ13, ρ14, ρ15, ρ16, ρ17, ρ18, ρ19, ρ20, ρ21, ρ22, ρ23, ρ24, Kd.isRo, ρ25, ρ26, bldV, Nat.reduceLeDiff, Int.reduceMul, Int.reduceAdd, Int.reduceSub, Int.reduceToNat, maxLen_eq, zeros_one, appS_some, appV_n, appV_v, appH_t, appH_f, Kd.isEx, ρ27, partV, CH.set_set, lkV, lkR, isKey, mupV, nxtV, ρ28, ρ29, hob, he]) | (with_reducible first | refine condK_dec (fun _ => ?_) fun _ => ?_ | refine grd_dec (fun _ => ?_) fun _ => ?_ | refine egrd_dec (fun _ => ?_) fun _ => ?_))
    all_goals
      unfold failS
      rw [if_pos he]
      exact h.set (s' := { s with err := e, wh := line }) rfl rfl ⟨h.bd.pos, h.bd.line, h.bd.dep, h2, h1, h.bd.out⟩
  · repeat' (first | (simp (disch := first | omega | (decide +kernel) | (repeat first | assumption | exact HExt.refl _ | refine HExt.set ?_ (by first | omega | (simp only [new_nx, set_nx]; omega)) _ | refine HExt.new ?_ _)) only [↓RD, RU, accW_t, accW_f, isW, ↓putF_get, ↓putF_none, ↓evF_t, ↓evF_c, ↓evF_f, new_nx, set_nx, new_get, set_get, getD_zero, getD_succ, u_not, pop, lop, aop, wop, resL, resV, tupleV, akV, isVal, isCell, Value.cells, ρ0, ρ1, ρ2, ρ3, ρ4, ↓reduceIte, Nat.reduceEqDiff, Nat.reduceAdd, Int.reduceOfNat, Int.reduceNegSucc, reduceCtorEq, ρ5, ρ6, ρ7, ρ8, srcR_c, src_n, src_v, src_s, bnd, lenV, capV, ρ9, ρ10, ρ11, ρ12, ρ13, ρ14, ρ15, ρ16, ρ17, ρ18, ρ19, ρ20, ρ21, ρ22, ρ23, ρ24, Kd.isRo, ρ25, ρ26, bldV, Nat.reduceLeDiff, Int.reduceMul, Int.reduceAdd, Int.reduceSub, Int.reduceToNat, maxLen_eq, zeros_one, appS_some, appV_n, appV_v, appH_t, appH_f, Kd.isEx, ρ27, partV, CH.set_set, lkV, lkR, isKey, mupV, nxtV, ρ28, ρ29, hob, he]) | (with_reducible first | refine condK_dec (fun _ => ?_) fun _ => ?_ | refine grd_dec (fun _ => ?_) fun _ => ?_ | refine egrd_dec (fun _ => ?_) fun _ => ?_))
    all_goals
      unfold failS
      rw [if_neg he]
      exact h
theorem RdAt.putv {A K K' : CH} {p : Nat} {src : List UInt8} {s : RS} {vo vt vt' : Value} {m : Nat} {t : Tok} (h : RdAt A K p src s vo vt m) (hb : (s.out ++ [t]).length + s.opn.length ≤ 1000000) (hx : HExt A K') (hn : K.nx ≤ K'.nx) (hg : Grw A 33 3 tokC K' vt' (s.out ++ [t])) (hk : ∀ l, l < K.nx → (∀ o n c, vt ≠ .slice (some ⟨l, o, none⟩) n c) → K'.ob l = K.ob l) :
    RdAt A (K'.set p (.cells [.string (str src), .int .i64 s.pos, .int .i64 s.line, .int .i64 s.dep, vo, vt', .map (some m), .int .i64 s.err, .int .i64 s.wh] 44 .ex)) p src { s with out := s.out ++ [t] } vo vt' m := by
  have hob := h.ob
  obtain ⟨b, kd, c, os, h1, h2, h3, h4, h5⟩ := h.opn
  have hne : ∀ l cs e k, K.ob l = .cells cs e k → e ≠ 33 → ∀ o n c, vt ≠ .slice (some ⟨l, o, none⟩) n c := fun l cs e k hl hne o n c hv => by
    rcases h.out with ⟨_, g⟩ | ⟨b', kd', e', g1, g2, g3, g4⟩
    · rw [g] at hv; cases hv
    · rw [e'] at hv; cases hv
      rw [hl] at g3; exact hne (CObj.cells.inj g3).2.1
  have hp := (hk p h.pl (hne _ _ _ _ hob (by decide))).trans hob
  have hb' := (hk b h3 (hne _ _ _ _ h4 (by decide))).trans h4
  have hm' := (hk m h.ml fun o n c hv => by
    rcases h.out with ⟨_, g⟩ | ⟨b', kd', e', g1, g2, g3, g4⟩
    · rw [g] at hv; cases hv
    · rw [e'] at hv; cases hv
      rw [h.mp] at g3; cases g3).trans h.mp
  have hbp : b ≠ p := fun e => by
    rw [e, hp] at hb'
    have := (CObj.cells.inj hb').2.1
    revert this; decide
  have hmp : m ≠ p := fun e => by rw [e, hp] at hm'; cases hm'
  refine ⟨by rw [set_get, if_pos rfl], Nat.lt_of_lt_of_le h.pl hn, h.pa, ⟨b, kd, c, os, h1, h2, Nat.lt_of_lt_of_le h3 hn, by rw [set_get, if_neg hbp]; exact hb', h5⟩, ?_, by rw [set_get, if_neg hmp]; exact hm', Nat.lt_of_lt_of_le h.ml hn, h.ma, hx.set h.pa _, ⟨h.bd.pos, h.bd.line, h.bd.dep, h.bd.err, h.bd.wh, hb⟩, h.sl⟩
  rcases hg with g | ⟨b2, kd2, e2, g1, g2, g3, g4⟩
  · exact .inl g
  · refine .inr ⟨b2, kd2, e2, g1, g2, ?_, g4⟩
    rw [set_get, if_neg]
    · exact g3
    · intro e
      rw [e, hp] at g3
      have := (CObj.cells.inj g3).2.1
      revert this; decide
def putS (s : RS) (k line : Nat) (x : List UInt8) : RS := { s with out := s.out ++ [⟨k, line, x⟩] }
theorem put_wp {A K : CH} {p : Nat} {src : List UInt8} {s : RS} {vo vt : Value} {m : Nat} (h : RdAt A K p src s vo vt m) (k line : Nat) (x : List UInt8) (hb : s.out.length + s.opn.length < 1000000) :
    WpF (tblG Try.prog LG GG) 20 [.pointer (some ⟨p, 0, none⟩), .int .i64 k, .int .i64 line, .string (str x)] K fun v K' => ∃ vt', RdAt A K' p src (putS s k line x) vo vt' m := by
  have hob := h.ob
  have hp := h.pl
  have hpa := h.pa
  refine wpF_rG (by rfl) (by kernel_rfl) ?_; (conv in (rF _ _).body => reduce); (conv in (rF _ _).res => reduce)
  repeat' (first | (simp (disch := first | omega | (decide +kernel) | (repeat first | assumption | exact HExt.refl _ | refine HExt.set ?_ (by first | omega | (simp only [new_nx, set_nx]; omega)) _ | refine HExt.new ?_ _)) only [↓RD, RU, accW_t, accW_f, isW, ↓putF_get, ↓putF_none, ↓evF_t, ↓evF_c, ↓evF_f, new_nx, set_nx, new_get, set_get, getD_zero, getD_succ, u_not, pop, lop, aop, wop, resL, resV, tupleV, akV, isVal, isCell, Value.cells, ρ0, ρ1, ρ2, ρ3, ρ4, ↓reduceIte, Nat.reduceEqDiff, Nat.reduceAdd, Int.reduceOfNat, Int.reduceNegSucc, reduceCtorEq, ρ5, ρ6, ρ7, ρ8, srcR_c, src_n, src_v, src_s, bnd, lenV, capV, ρ9, ρ10, ρ11, ρ12, ρ13, ρ14, ρ15, ρ16, ρ17, ρ18, ρ19, ρ20, ρ21, ρ22, ρ23, ρ24, Kd.isRo, ρ25, ρ26, bldV, Nat.reduceLeDiff, Int.reduceMul, Int.reduceAdd, Int.reduceSub, Int.reduceToNat, maxLen_eq, zeros_one, appS_some, appV_n, appV_v, appH_t, appH_f, Kd.isEx, ρ27, partV, CH.set_set, lkV, lkR, isKey, mupV, nxtV, ρ28, ρ29, hob, zeros3, Nat.zero_mul]) | (with_reducible first | refine condK_dec (fun _ => ?_) fun _ => ?_ | refine grd_dec (fun _ => ?_) fun _ => ?_ | refine egrd_dec (fun _ => ?_) fun _ => ?_))
  have hx1 : HExt K (K.new (.cells [.int .i64 k, .int .i64 line, .string (str x)] 33 .ex)) := by (repeat (first | assumption | exact HExt.refl _ | (refine HExt.set ?_ (by first | omega | (simp only [new_nx, set_nx]; omega)) _) | (refine HExt.new ?_ _)))
  have hol := h.bd.out
  refine optW_app tokC_ok (ys := [⟨k, line, x⟩]) (h.out.ext hx1) (h.E.trans hx1) (by simp only [List.length_singleton]; omega) (by simp only [List.length_singleton]; omega) rfl rfl fun vt' K2 j1 j2 j3 j4 => ?_
  have hob2 := (j4 p (by show p < K.nx + 1; omega) fun o n c hv => ?_).trans ((hx1.ob p hp).trans hob)
  · have j1' := j1
    rcases j1' with ⟨g, _⟩ | ⟨b2, kd2, rfl, _⟩
    · simp at g
    have j1' := j1
    simp only [List.length_append, List.length_singleton] at j1'
    repeat' (first | (simp (disch := first | omega | (decide +kernel) | (repeat first | assumption | exact HExt.refl _ | refine HExt.set ?_ (by first | omega | (simp only [new_nx, set_nx]; omega)) _ | refine HExt.new ?_ _)) only [↓RD, RU, accW_t, accW_f, isW, ↓putF_get, ↓putF_none, ↓evF_t, ↓evF_c, ↓evF_f, new_nx, set_nx, new_get, set_get, getD_zero, getD_succ, u_not, pop, lop, aop, wop, resL, resV, tupleV, akV, isVal, isCell, Value.cells, ρ0, ρ1, ρ2, ρ3, ρ4, ↓reduceIte, Nat.reduceEqDiff, Nat.reduceAdd, Int.reduceOfNat, Int.reduceNegSucc, reduceCtorEq, ρ5, ρ6, ρ7, ρ8, srcR_c, src_n, src_v, src_s, bnd, lenV, capV, ρ9, ρ10, ρ11, ρ12, ρ13, ρ14, ρ15, ρ16, ρ17, ρ18, ρ19, ρ20, ρ21, ρ22, ρ23, ρ24, Kd.isRo, ρ25, ρ26, bldV, Nat.reduceLeDiff, Int.reduceMul, Int.reduceAdd, Int.reduceSub, Int.reduceToNat, maxLen_eq, zeros_one, appS_some, appV_n, appV_v, appH_t, appH_f, Kd.isEx, ρ27, partV, CH.set_set, lkV, lkR, isKey, mupV, nxtV, ρ28, ρ29, hob2]) | (with_reducible first | refine condK_dec (fun _ => ?_) fun _ => ?_ | refine grd_dec (fun _ => ?_) fun _ => ?_ | refine egrd_dec (fun _ => ?_) fun _ => ?_))
    all_goals exact ⟨_, (h.mv hx1).putv (by simp; omega) j2 j3 j1' j4⟩
  · rcases h.out with ⟨_, g⟩ | ⟨b', kd', e', g1, g2, g3, g4⟩
    · rw [g] at hv; cases hv
    · rw [e'] at hv; cases hv
      rw [hob] at g3
      have := (CObj.cells.inj g3).2.1
      revert this; decide
theorem get_pos {src : List UInt8} {i : Nat} (h : i < src.length) : src[i]? = some src[i] := List.getElem?_eq_getElem h
/-- The byte at a distance. -/
theorem peek_wp {A K : CH} {p : Nat} {src : List UInt8} {s : RS} {vo vt : Value} {m : Nat} (h : RdAt A K p src s vo vt m) (n : Nat) (hn : n ≤ 10) :
    WpF (tblG Try.prog LG GG) 31 [.pointer (some ⟨p, 0, none⟩), .int .i64 n] K fun v K' => v = .int .u8 (hd (src.drop (s.pos + n)) : Nat) ∧ K' = K := by
  have hob := h.ob
  have hp := h.pl
  have hpos := h.bd.pos
  have hsl := h.sl
  refine wpF_rG (by rfl) (by kernel_rfl) ?_; (conv in (rF _ _).body => reduce); (conv in (rF _ _).res => reduce)
  by_cases hl : s.pos + n < src.length
  · have hg := get_pos hl
    rw [hd_drop hl]
    repeat' (first | (simp (disch := first | omega | (decide +kernel) | (repeat first | assumption | exact HExt.refl _ | refine HExt.set ?_ (by first | omega | (simp only [new_nx, set_nx]; omega)) _ | refine HExt.new ?_ _)) only [↓RD, RU, accW_t, accW_f, isW, ↓putF_get, ↓putF_none, ↓evF_t, ↓evF_c, ↓evF_f, new_nx, set_nx, new_get, set_get, getD_zero, getD_succ, u_not, pop, lop, aop, wop, resL, resV, tupleV, akV, isVal, isCell, Value.cells, ρ0, ρ1, ρ2, ρ3, ρ4, ↓reduceIte, Nat.reduceEqDiff, Nat.reduceAdd, Int.reduceOfNat, Int.reduceNegSucc, reduceCtorEq, ρ5, ρ6, ρ7, ρ8, srcR_c, src_n, src_v, src_s, bnd, lenV, capV, ρ9, ρ10, ρ11, ρ12, ρ13, ρ14, ρ15, ρ16, ρ17, ρ18, ρ19, ρ20, ρ21, ρ22, ρ23, ρ24, Kd.isRo, ρ25, ρ26, bldV, Nat.reduceLeDiff, Int.reduceMul, Int.reduceAdd, Int.reduceSub, Int.reduceToNat, maxLen_eq, zeros_one, appS_some, appV_n, appV_v, appH_t, appH_f, Kd.isEx, ρ27, partV, CH.set_set, lkV, lkR, isKey, mupV, nxtV, ρ28, ρ29, hob, str_size, str_get, hg]) | (with_reducible first | refine condK_dec (fun _ => ?_) fun _ => ?_ | refine grd_dec (fun _ => ?_) fun _ => ?_ | refine egrd_dec (fun _ => ?_) fun _ => ?_))
  · have hh : hd (src.drop (s.pos + n)) = 0 := by rw [List.drop_eq_nil_of_le (by omega)]; rfl
    rw [hh]
    repeat' (first | (simp (disch := first | omega | (decide +kernel) | (repeat first | assumption | exact HExt.refl _ | refine HExt.set ?_ (by first | omega | (simp only [new_nx, set_nx]; omega)) _ | refine HExt.new ?_ _)) only [↓RD, RU, accW_t, accW_f, isW, ↓putF_get, ↓putF_none, ↓evF_t, ↓evF_c, ↓evF_f, new_nx, set_nx, new_get, set_get, getD_zero, getD_succ, u_not, pop, lop, aop, wop, resL, resV, tupleV, akV, isVal, isCell, Value.cells, ρ0, ρ1, ρ2, ρ3, ρ4, ↓reduceIte, Nat.reduceEqDiff, Nat.reduceAdd, Int.reduceOfNat, Int.reduceNegSucc, reduceCtorEq, ρ5, ρ6, ρ7, ρ8, srcR_c, src_n, src_v, src_s, bnd, lenV, capV, ρ9, ρ10, ρ11, ρ12, ρ13, ρ14, ρ15, ρ16, ρ17, ρ18, ρ19, ρ20, ρ21, ρ22, ρ23, ρ24, Kd.isRo, ρ25, ρ26, bldV, Nat.reduceLeDiff, Int.reduceMul, Int.reduceAdd, Int.reduceSub, Int.reduceToNat, maxLen_eq, zeros_one, appS_some, appV_n, appV_v, appH_t, appH_f, Kd.isEx, ρ27, partV, CH.set_set, lkV, lkR, isKey, mupV, nxtV, ρ28, ρ29, hob, str_size]) | (with_reducible first | refine condK_dec (fun _ => ?_) fun _ => ?_ | refine grd_dec (fun _ => ?_) fun _ => ?_ | refine egrd_dec (fun _ => ?_) fun _ => ?_))
    all_goals rfl
theorem letter_wp (H : CH) (n : Nat) : WpF (tblG Try.prog LG GG) 33 [.int .u8 n] H fun v K => v = .bool (isLetN n) ∧ K = H := by
  refine wpF_rG (by rfl) (by kernel_rfl) ?_; (conv in (rF _ _).body => reduce); (conv in (rF _ _).res => reduce)
  repeat' (first | (simp (disch := first | omega | (decide +kernel) | (repeat first | assumption | exact HExt.refl _ | refine HExt.set ?_ (by first | omega | (simp only [new_nx, set_nx]; omega)) _ | refine HExt.new ?_ _)) only [↓RD, RU, accW_t, accW_f, isW, ↓putF_get, ↓putF_none, ↓evF_t, ↓evF_c, ↓evF_f, new_nx, set_nx, new_get, set_get, getD_zero, getD_succ, u_not, pop, lop, aop, wop, resL, resV, tupleV, akV, isVal, isCell, Value.cells, ρ0, ρ1, ρ2, ρ3, ρ4, ↓reduceIte, Nat.reduceEqDiff, Nat.reduceAdd, Int.reduceOfNat, Int.reduceNegSucc, reduceCtorEq, ρ5, ρ6, ρ7, ρ8, srcR_c, src_n, src_v, src_s, bnd, lenV, capV, ρ9, ρ10, ρ11, ρ12, ρ13, ρ14, ρ15, ρ16, ρ17, ρ18, ρ19, ρ20, ρ21, ρ22, ρ23, ρ24, Kd.isRo, ρ25, ρ26, bldV, Nat.reduceLeDiff, Int.reduceMul, Int.reduceAdd, Int.reduceSub, Int.reduceToNat, maxLen_eq, zeros_one, appS_some, appV_n, appV_v, appH_t, appH_f, Kd.isEx, ρ27, partV, CH.set_set, lkV, lkR, isKey, mupV, nxtV, ρ28, ρ29]) | (with_reducible first | refine condK_dec (fun _ => ?_) fun _ => ?_ | refine grd_dec (fun _ => ?_) fun _ => ?_ | refine egrd_dec (fun _ => ?_) fun _ => ?_))
  all_goals first | rfl | (apply congrArg Value.bool; symm; apply decide_eq_true; omega) | (apply congrArg Value.bool; symm; apply decide_eq_false; omega) | (apply congrArg Value.bool; apply decide_eq_decide.2; omega)
theorem letter_iff {H : CH} {n : Nat} {Q : Value → CH → Prop} : WpF (tblG Try.prog LG GG) 33 [.int .u8 n] H Q ↔ Q (.bool (isLetN n)) H := wpF_iff (letter_wp H n)
theorem digit_wp (H : CH) (n : Nat) : WpF (tblG Try.prog LG GG) 35 [.int .u8 n] H fun v K => v = .bool (isDigN n) ∧ K = H := by
  refine wpF_rG (by rfl) (by kernel_rfl) ?_; (conv in (rF _ _).body => reduce); (conv in (rF _ _).res => reduce)
  repeat' (first | (simp (disch := first | omega | (decide +kernel) | (repeat first | assumption | exact HExt.refl _ | refine HExt.set ?_ (by first | omega | (simp only [new_nx, set_nx]; omega)) _ | refine HExt.new ?_ _)) only [↓RD, RU, accW_t, accW_f, isW, ↓putF_get, ↓putF_none, ↓evF_t, ↓evF_c, ↓evF_f, new_nx, set_nx, new_get, set_get, getD_zero, getD_succ, u_not, pop, lop, aop, wop, resL, resV, tupleV, akV, isVal, isCell, Value.cells, ρ0, ρ1, ρ2, ρ3, ρ4, ↓reduceIte, Nat.reduceEqDiff, Nat.reduceAdd, Int.reduceOfNat, Int.reduceNegSucc, reduceCtorEq, ρ5, ρ6, ρ7, ρ8, srcR_c, src_n, src_v, src_s, bnd, lenV, capV, ρ9, ρ10, ρ11, ρ12, ρ13, ρ14, ρ15, ρ16, ρ17, ρ18, ρ19, ρ20, ρ21, ρ22, ρ23, ρ24, Kd.isRo, ρ25, ρ26, bldV, Nat.reduceLeDiff, Int.reduceMul, Int.reduceAdd, Int.reduceSub, Int.reduceToNat, maxLen_eq, zeros_one, appS_some, appV_n, appV_v, appH_t, appH_f, Kd.isEx, ρ27, partV, CH.set_set, lkV, lkR, isKey, mupV, nxtV, ρ28, ρ29]) | (with_reducible first | refine condK_dec (fun _ => ?_) fun _ => ?_ | refine grd_dec (fun _ => ?_) fun _ => ?_ | refine egrd_dec (fun _ => ?_) fun _ => ?_))
  all_goals first | rfl | (apply congrArg Value.bool; symm; apply decide_eq_true; omega) | (apply congrArg Value.bool; symm; apply decide_eq_false; omega) | (apply congrArg Value.bool; apply decide_eq_decide.2; omega)
theorem digit_iff {H : CH} {n : Nat} {Q : Value → CH → Prop} : WpF (tblG Try.prog LG GG) 35 [.int .u8 n] H Q ↔ Q (.bool (isDigN n)) H := wpF_iff (digit_wp H n)
theorem rletter_wp (H : CH) (n : Nat) : WpF (tblG Try.prog LG GG) 24 [.int .u8 n] H fun v K => v = .bool (isLetN n) ∧ K = H := by
  refine wpF_rG (by rfl) (by kernel_rfl) ?_; (conv in (rF _ _).body => reduce); (conv in (rF _ _).res => reduce)
  repeat' (first | (simp (disch := first | omega | (decide +kernel) | (repeat first | assumption | exact HExt.refl _ | refine HExt.set ?_ (by first | omega | (simp only [new_nx, set_nx]; omega)) _ | refine HExt.new ?_ _)) only [↓RD, RU, accW_t, accW_f, isW, ↓putF_get, ↓putF_none, ↓evF_t, ↓evF_c, ↓evF_f, new_nx, set_nx, new_get, set_get, getD_zero, getD_succ, u_not, pop, lop, aop, wop, resL, resV, tupleV, akV, isVal, isCell, Value.cells, ρ0, ρ1, ρ2, ρ3, ρ4, ↓reduceIte, Nat.reduceEqDiff, Nat.reduceAdd, Int.reduceOfNat, Int.reduceNegSucc, reduceCtorEq, ρ5, ρ6, ρ7, ρ8, srcR_c, src_n, src_v, src_s, bnd, lenV, capV, ρ9, ρ10, ρ11, ρ12, ρ13, ρ14, ρ15, ρ16, ρ17, ρ18, ρ19, ρ20, ρ21, ρ22, ρ23, ρ24, Kd.isRo, ρ25, ρ26, bldV, Nat.reduceLeDiff, Int.reduceMul, Int.reduceAdd, Int.reduceSub, Int.reduceToNat, maxLen_eq, zeros_one, appS_some, appV_n, appV_v, appH_t, appH_f, Kd.isEx, ρ27, partV, CH.set_set, lkV, lkR, isKey, mupV, nxtV, ρ28, ρ29]) | (with_reducible first | refine condK_dec (fun _ => ?_) fun _ => ?_ | refine grd_dec (fun _ => ?_) fun _ => ?_ | refine egrd_dec (fun _ => ?_) fun _ => ?_))
  all_goals first | rfl | (apply congrArg Value.bool; symm; apply decide_eq_true; omega) | (apply congrArg Value.bool; symm; apply decide_eq_false; omega) | (apply congrArg Value.bool; apply decide_eq_decide.2; omega)
theorem rletter_iff {H : CH} {n : Nat} {Q : Value → CH → Prop} : WpF (tblG Try.prog LG GG) 24 [.int .u8 n] H Q ↔ Q (.bool (isLetN n)) H := wpF_iff (rletter_wp H n)
theorem rdigit_wp (H : CH) (n : Nat) : WpF (tblG Try.prog LG GG) 25 [.int .u8 n] H fun v K => v = .bool (isDigN n) ∧ K = H := by
  refine wpF_rG (by rfl) (by kernel_rfl) ?_; (conv in (rF _ _).body => reduce); (conv in (rF _ _).res => reduce)
  repeat' (first | (simp (disch := first | omega | (decide +kernel) | (repeat first | assumption | exact HExt.refl _ | refine HExt.set ?_ (by first | omega | (simp only [new_nx, set_nx]; omega)) _ | refine HExt.new ?_ _)) only [↓RD, RU, accW_t, accW_f, isW, ↓putF_get, ↓putF_none, ↓evF_t, ↓evF_c, ↓evF_f, new_nx, set_nx, new_get, set_get, getD_zero, getD_succ, u_not, pop, lop, aop, wop, resL, resV, tupleV, akV, isVal, isCell, Value.cells, ρ0, ρ1, ρ2, ρ3, ρ4, ↓reduceIte, Nat.reduceEqDiff, Nat.reduceAdd, Int.reduceOfNat, Int.reduceNegSucc, reduceCtorEq, ρ5, ρ6, ρ7, ρ8, srcR_c, src_n, src_v, src_s, bnd, lenV, capV, ρ9, ρ10, ρ11, ρ12, ρ13, ρ14, ρ15, ρ16, ρ17, ρ18, ρ19, ρ20, ρ21, ρ22, ρ23, ρ24, Kd.isRo, ρ25, ρ26, bldV, Nat.reduceLeDiff, Int.reduceMul, Int.reduceAdd, Int.reduceSub, Int.reduceToNat, maxLen_eq, zeros_one, appS_some, appV_n, appV_v, appH_t, appH_f, Kd.isEx, ρ27, partV, CH.set_set, lkV, lkR, isKey, mupV, nxtV, ρ28, ρ29]) | (with_reducible first | refine condK_dec (fun _ => ?_) fun _ => ?_ | refine grd_dec (fun _ => ?_) fun _ => ?_ | refine egrd_dec (fun _ => ?_) fun _ => ?_))
  all_goals first | rfl | (apply congrArg Value.bool; symm; apply decide_eq_true; omega) | (apply congrArg Value.bool; symm; apply decide_eq_false; omega) | (apply congrArg Value.bool; apply decide_eq_decide.2; omega)
theorem rdigit_iff {H : CH} {n : Nat} {Q : Value → CH → Prop} : WpF (tblG Try.prog LG GG) 25 [.int .u8 n] H Q ↔ Q (.bool (isDigN n)) H := wpF_iff (rdigit_wp H n)
theorem half_wp (H : CH) (n : Nat) (hn : n < 256) : WpF (tblG Try.prog LG GG) 47 [.int .u8 n] H fun v K => v = .int .u8 (hexN n : Nat) ∧ K = H := by
  refine wpF_rG (by rfl) (by kernel_rfl) ?_; (conv in (rF _ _).body => reduce); (conv in (rF _ _).res => reduce)
  by_cases h1 : 48 ≤ n ∧ n ≤ 57
  · have hd1 : isDigN n = true := decide_eq_true h1
    have e : hexN n = n - 48 := by unfold hexN; rw [if_pos h1]
    rw [e]
    repeat' (first | (simp (disch := first | omega | (decide +kernel) | (repeat first | assumption | exact HExt.refl _ | refine HExt.set ?_ (by first | omega | (simp only [new_nx, set_nx]; omega)) _ | refine HExt.new ?_ _)) only [↓RD, RU, accW_t, accW_f, isW, ↓putF_get, ↓putF_none, ↓evF_t, ↓evF_c, ↓evF_f, new_nx, set_nx, new_get, set_get, getD_zero, getD_succ, u_not, pop, lop, aop, wop, resL, resV, tupleV, akV, isVal, isCell, Value.cells, ρ0, ρ1, ρ2, ρ3, ρ4, ↓reduceIte, Nat.reduceEqDiff, Nat.reduceAdd, Int.reduceOfNat, Int.reduceNegSucc, reduceCtorEq, ρ5, ρ6, ρ7, ρ8, srcR_c, src_n, src_v, src_s, bnd, lenV, capV, ρ9, ρ10, ρ11, ρ12, ρ13, ρ14, ρ15, ρ16, ρ17, ρ18, ρ19, ρ20, ρ21, ρ22, ρ23, ρ24, Kd.isRo, ρ25, ρ26, bldV, Nat.reduceLeDiff, Int.reduceMul, Int.reduceAdd, Int.reduceSub, Int.reduceToNat, maxLen_eq, zeros_one, appS_some, appV_n, appV_v, appH_t, appH_f, Kd.isEx, ρ27, partV, CH.set_set, lkV, lkR, isKey, mupV, nxtV, ρ28, ρ29, digit_iff, hd1]) | (with_reducible first | refine condK_dec (fun _ => ?_) fun _ => ?_ | refine grd_dec (fun _ => ?_) fun _ => ?_ | refine egrd_dec (fun _ => ?_) fun _ => ?_))
    all_goals (apply congrArg (Value.int .u8); omega)
  · have hd1 : isDigN n = false := decide_eq_false h1
    repeat' (first | (simp (disch := first | omega | (decide +kernel) | (repeat first | assumption | exact HExt.refl _ | refine HExt.set ?_ (by first | omega | (simp only [new_nx, set_nx]; omega)) _ | refine HExt.new ?_ _)) only [↓RD, RU, accW_t, accW_f, isW, ↓putF_get, ↓putF_none, ↓evF_t, ↓evF_c, ↓evF_f, new_nx, set_nx, new_get, set_get, getD_zero, getD_succ, u_not, pop, lop, aop, wop, resL, resV, tupleV, akV, isVal, isCell, Value.cells, ρ0, ρ1, ρ2, ρ3, ρ4, ↓reduceIte, Nat.reduceEqDiff, Nat.reduceAdd, Int.reduceOfNat, Int.reduceNegSucc, reduceCtorEq, ρ5, ρ6, ρ7, ρ8, srcR_c, src_n, src_v, src_s, bnd, lenV, capV, ρ9, ρ10, ρ11, ρ12, ρ13, ρ14, ρ15, ρ16, ρ17, ρ18, ρ19, ρ20, ρ21, ρ22, ρ23, ρ24, Kd.isRo, ρ25, ρ26, bldV, Nat.reduceLeDiff, Int.reduceMul, Int.reduceAdd, Int.reduceSub, Int.reduceToNat, maxLen_eq, zeros_one, appS_some, appV_n, appV_v, appH_t, appH_f, Kd.isEx, ρ27, partV, CH.set_set, lkV, lkR, isKey, mupV, nxtV, ρ28, ρ29, digit_iff, hd1]) | (with_reducible first | refine condK_dec (fun _ => ?_) fun _ => ?_ | refine grd_dec (fun _ => ?_) fun _ => ?_ | refine egrd_dec (fun _ => ?_) fun _ => ?_))
    all_goals
      unfold hexN
      rw [if_neg h1]
      (repeat' split) <;> first | rfl | (exfalso; omega) | (apply congrArg (Value.int .u8); omega)
theorem half_iff {H : CH} {n : Nat} (hn : n < 256) {Q : Value → CH → Prop} : WpF (tblG Try.prog LG GG) 47 [.int .u8 n] H Q ↔ Q (.int .u8 (hexN n : Nat)) H := wpF_iff (half_wp H n hn)
end Can
end Go.Proofs.Ytmglmoehlegojaa
