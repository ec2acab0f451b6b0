/- Flow: a function's data; inside; which region handles. -/
import Derived.Test.YtapcoeecjlkdgaaFlCode
namespace Go.Proofs.Ytapcoeecjlkdgaa
namespace Can
open Go Go.RowKit
set_option linter.unusedSimpArgs false
set_option linter.unusedVariables false
set_option maxRecDepth 4000
structure Rgn where
  f : Int
  t : Int
  g : Int
  d : Int
structure Fn' where
  name : ByteArray
  params : Int
  regs : Int
  frees : Int
  gen : Bool
  bound : Int
  names : List ByteArray
  consts : List (Int × ByteArray)
  ins : List Ins
  rgs : List Rgn
instance : Inhabited Ins := ⟨⟨0, 0, 0, 0, 0, 0, []⟩⟩
instance : Inhabited Rgn := ⟨⟨0, 0, 0, 0⟩⟩
/-- Where its slices lie. -/
structure FnA where
  qn : Option Addr
  cn : Nat
  qc : Option Addr
  cc : Nat
  qi : Option Addr
  ci : Nat
  qr : Option Addr
  cr : Nat
def fnC (F : Fn') (A : FnA) : List Value := [.string F.name, .int .i64 F.params, .int .i64 F.regs, .int .i64 F.frees, .bool F.gen, .int .i64 F.bound, .slice A.qn F.names.length A.cn, .slice A.qc F.consts.length A.cc, .slice A.qi F.ins.length A.ci, .slice A.qr F.rgs.length A.cr]
def rgnC (r : Rgn) : List Value := [.int .i64 r.f, .int .i64 r.t, .int .i64 r.g, .int .i64 r.d]
structure RgnOk (r : Rgn) : Prop where
  f : i64r r.f
  t : i64r r.t
  g : i64r r.g
  d : i64r r.d
def CIns : CRep Ins := fun H cs i => ∃ q c, cs = insC i q c ∧ SlAt 1 (CInt .i64) H q c i.l ∧ InsOk i
def CRgn : CRep Rgn := fun H cs r => cs = rgnC r ∧ RgnOk r
def CConst : CRep (Int × ByteArray) := fun H cs k => cs = [.int .i64 k.1, .string k.2] ∧ i64r k.1 ∧ k.2.size ≤ reachBytes
theorem CIns.good : CGood CIns := fun _ _ _ _ hx ⟨q, c, h1, h2, h3⟩ => ⟨q, c, h1, h2.good (CInt.good _) hx, h3⟩
theorem CRgn.good : CGood CRgn := fun _ _ _ _ _ h => h
theorem CConst.good : CGood CConst := fun _ _ _ _ _ h => h
theorem CString.good : CGood CString := fun _ _ _ _ _ h => h
structure FnOk (H : CH) (F : Fn') (A : FnA) : Prop where
  params : i64r F.params
  regs : i64r F.regs
  frees : i64r F.frees
  bound : i64r F.bound
  names : SlAt 1 CString H A.qn A.cn F.names
  consts : SlAt 2 CConst H A.qc A.cc F.consts
  ins : SlAt 7 CIns H A.qi A.ci F.ins
  rgs : SlAt 4 CRgn H A.qr A.cr F.rgs
  lnames : F.names.length * 16 ≤ reachBytes
  lconsts : F.consts.length * 24 ≤ reachBytes
  lins : F.ins.length * 72 ≤ reachBytes
  lrgs : F.rgs.length * 32 ≤ reachBytes
theorem FnOk.good {H K : CH} {F : Fn'} {A : FnA} (h : FnOk H F A) (hx : HExt H K) : FnOk K F A :=
  ⟨h.params, h.regs, h.frees, h.bound, h.names.good CString.good hx, h.consts.good CConst.good hx, h.ins.good CIns.good hx, h.rgs.good CRgn.good hx, h.lnames, h.lconsts, h.lins, h.lrgs⟩
/-- An element of a slice: its cells. -/
theorem SlAt.el {α : Type} {sz : Nat} {R : CRep α} {H : CH} {a : Option Addr} {c : Nat} {xs : List α} (h : SlAt sz R H a c xs) {j : Nat} (hj : j < xs.length) :
    ∃ l o os e k, a = some ⟨l, o, none⟩ ∧ l < H.nx ∧ xs.length ≤ c ∧ c ≤ maxLen ∧ H.ob l = .cells os e k ∧ o + xs.length * sz ≤ os.length ∧ R H ((os.drop (o + j * sz)).take sz) xs[j] := by
  rcases h with ⟨h, _⟩ | ⟨l, o, os, e, k, h0, h1, h2, h3, h4, h5, h6⟩
  · subst h; simp at hj
  · exact ⟨l, o, os, e, k, h0, h1, h2, h3, h4, h5, h6 j hj⟩
theorem take_get {os cs : List Value} {o n : Nat} (h : (os.drop o).take n = cs) {k : Nat} (hk : k < n) : os[o + k]? = cs[k]? := by
  rw [← h, List.getElem?_take_of_lt hk, List.getElem?_drop]
def inF (xs : List Int) (n : Int) : Bool := xs.all fun x => decide (0 ≤ x ∧ x < n)
theorem inF_ok {xs : List Int} {n : Int} : inF xs n = true ↔ ∀ j, j < xs.length → 0 ≤ xs.getD j 0 ∧ xs.getD j 0 < n := by
  unfold inF
  rw [List.all_eq_true]
  constructor
  · intro h j hj
    have := h xs[j] (List.getElem_mem hj)
    simpa [List.getD, List.getElem?_eq_getElem hj] using this
  · intro h x hx
    obtain ⟨j, hj, rfl⟩ := List.getElem_of_mem hx
    have := h j hj
    simpa [List.getD, List.getElem?_eq_getElem hj] using this
theorem inside_wp {H : CH} {q : Option Addr} {c : Nat} {xs : List Int} (hx : SlAt 1 (CInt .i64) H q c xs) (n : Int) (hl : xs.length ≤ 9223372036854775806) :
    WpF (tblG Try.prog LG GG) 26 [.slice q xs.length c, .int .i64 n] H fun v K => v = .bool (inF xs n) ∧ K = H := by
  refine wpF_rG (by rfl) (by kernel_rfl) ?_; (conv in (rF _ _).body => reduce); (conv in (rF _ _).res => reduce)
  repeat' (first | (simp (disch := first | omega | (decide +kernel) | (repeat (first | assumption | exact HExt.refl _ | (refine HExt.set ?_ (by first | omega | (simp only [new_nx, set_nx]; omega)) _) | (refine HExt.new ?_ _)))) only [↓RD, RU, accW_t, accW_f, isW, ↓putF_get, ↓putF_none, ↓evF_t, ↓evF_c, ↓evF_f, new_nx, set_nx, new_get, set_get, getD_zero, getD_succ, u_not, pop, lop, aop, wop, resL, resV, tupleV, akV, isVal, isCell, Value.cells, List.map_cons, List.map_nil, Bool.not_true, Bool.not_false, Option.map_some, ↓reduceIte, Nat.reduceEqDiff, Nat.reduceAdd, Int.reduceOfNat, Int.reduceNegSucc, reduceCtorEq, List.getElem?_cons_zero, List.getElem?_cons_succ, List.length_cons, List.length_nil, srcR_c, src_n, src_v, src_s, bnd, lenV, capV, Option.isSome_none, Option.isNone_none, Option.isSome_some, Option.isNone_some, Bool.true_or, Bool.false_or, List.take_succ_cons, List.take_zero, List.drop_succ_cons, List.drop_zero, List.cons_append, List.nil_append, List.drop_nil, List.all_cons, List.all_nil, Bool.true_and, Kd.isRo, List.size_toArray, List.toList_toArray, bldV, Nat.reduceLeDiff, Int.reduceMul, Int.reduceAdd, Int.reduceSub, Int.reduceToNat, maxLen_eq, zeros_one, appS_some, appV_n, appV_v, appH_t, appH_f, Kd.isEx, Bool.false_and, partV, Nat.add_zero, Int.toNat_natCast]) | (with_reducible refine condK_dec (fun _ => ?_) (fun _ => ?_)) | (with_reducible refine grd_dec (fun _ => ?_) (fun _ => ?_)) | (with_reducible refine egrd_dec (fun _ => ?_) (fun _ => ?_)))
  refine loop_w (fun m fr K => ∃ j, m = xs.length - j ∧ j ≤ xs.length ∧ fr 5 = .int .i64 j ∧ K = H ∧ ∀ i, i < j → 0 ≤ xs.getD i 0 ∧ xs.getD i 0 < n) ⟨0, rfl, Nat.zero_le _, by repeat' (first | (simp (disch := first | omega | (decide +kernel) | (repeat (first | assumption | exact HExt.refl _ | (refine HExt.set ?_ (by first | omega | (simp only [new_nx, set_nx]; omega)) _) | (refine HExt.new ?_ _)))) only [↓RD, RU, accW_t, accW_f, isW, ↓putF_get, ↓putF_none, ↓evF_t, ↓evF_c, ↓evF_f, new_nx, set_nx, new_get, set_get, getD_zero, getD_succ, u_not, pop, lop, aop, wop, resL, resV, tupleV, akV, isVal, isCell, Value.cells, List.map_cons, List.map_nil, Bool.not_true, Bool.not_false, Option.map_some, ↓reduceIte, Nat.reduceEqDiff, Nat.reduceAdd, Int.reduceOfNat, Int.reduceNegSucc, reduceCtorEq, List.getElem?_cons_zero, List.getElem?_cons_succ, List.length_cons, List.length_nil, srcR_c, src_n, src_v, src_s, bnd, lenV, capV, Option.isSome_none, Option.isNone_none, Option.isSome_some, Option.isNone_some, Bool.true_or, Bool.false_or, List.take_succ_cons, List.take_zero, List.drop_succ_cons, List.drop_zero, List.cons_append, List.nil_append, List.drop_nil, List.all_cons, List.all_nil, Bool.true_and, Kd.isRo, List.size_toArray, List.toList_toArray, bldV, Nat.reduceLeDiff, Int.reduceMul, Int.reduceAdd, Int.reduceSub, Int.reduceToNat, maxLen_eq, zeros_one, appS_some, appV_n, appV_v, appH_t, appH_f, Kd.isEx, Bool.false_and, partV, Nat.add_zero, Int.toNat_natCast]) | (with_reducible refine condK_dec (fun _ => ?_) (fun _ => ?_)) | (with_reducible refine grd_dec (fun _ => ?_) (fun _ => ?_)) | (with_reducible refine egrd_dec (fun _ => ?_) (fun _ => ?_))); rfl, rfl, fun i hi => absurd hi (Nat.not_lt_zero _)⟩ ?_
  rintro m fr K ⟨j, rfl, hj, f5, rfl, hpre⟩ hag
  by_cases hjl : j < xs.length
  case neg =>
    have he : inF xs n = true := inF_ok.2 fun i hi => hpre i (by omega)
    repeat' (first | (simp (disch := first | omega | (decide +kernel) | (repeat (first | assumption | exact HExt.refl _ | (refine HExt.set ?_ (by first | omega | (simp only [new_nx, set_nx]; omega)) _) | (refine HExt.new ?_ _)))) only [↓RD, RU, accW_t, accW_f, isW, ↓putF_get, ↓putF_none, ↓evF_t, ↓evF_c, ↓evF_f, new_nx, set_nx, new_get, set_get, getD_zero, getD_succ, u_not, pop, lop, aop, wop, resL, resV, tupleV, akV, isVal, isCell, Value.cells, List.map_cons, List.map_nil, Bool.not_true, Bool.not_false, Option.map_some, ↓reduceIte, Nat.reduceEqDiff, Nat.reduceAdd, Int.reduceOfNat, Int.reduceNegSucc, reduceCtorEq, List.getElem?_cons_zero, List.getElem?_cons_succ, List.length_cons, List.length_nil, srcR_c, src_n, src_v, src_s, bnd, lenV, capV, Option.isSome_none, Option.isNone_none, Option.isSome_some, Option.isNone_some, Bool.true_or, Bool.false_or, List.take_succ_cons, List.take_zero, List.drop_succ_cons, List.drop_zero, List.cons_append, List.nil_append, List.drop_nil, List.all_cons, List.all_nil, Bool.true_and, Kd.isRo, List.size_toArray, List.toList_toArray, bldV, Nat.reduceLeDiff, Int.reduceMul, Int.reduceAdd, Int.reduceSub, Int.reduceToNat, maxLen_eq, zeros_one, appS_some, appV_n, appV_v, appH_t, appH_f, Kd.isEx, Bool.false_and, partV, Nat.add_zero, Int.toNat_natCast, f5, hag, he]) | (with_reducible refine condK_dec (fun _ => ?_) (fun _ => ?_)) | (with_reducible refine grd_dec (fun _ => ?_) (fun _ => ?_)) | (with_reducible refine egrd_dec (fun _ => ?_) (fun _ => ?_)))
  obtain ⟨l, o, os, e, kd, rfl, hl1, hc, hm, hob, hol, hos, hwf⟩ := hx.ints (by omega)
  have g := hos j hjl
  by_cases hin : 0 ≤ xs.getD j 0 ∧ xs.getD j 0 < n
  · repeat' (first | (simp (disch := first | omega | (decide +kernel) | (repeat (first | assumption | exact HExt.refl _ | (refine HExt.set ?_ (by first | omega | (simp only [new_nx, set_nx]; omega)) _) | (refine HExt.new ?_ _)))) only [↓RD, RU, accW_t, accW_f, isW, ↓putF_get, ↓putF_none, ↓evF_t, ↓evF_c, ↓evF_f, new_nx, set_nx, new_get, set_get, getD_zero, getD_succ, u_not, pop, lop, aop, wop, resL, resV, tupleV, akV, isVal, isCell, Value.cells, List.map_cons, List.map_nil, Bool.not_true, Bool.not_false, Option.map_some, ↓reduceIte, Nat.reduceEqDiff, Nat.reduceAdd, Int.reduceOfNat, Int.reduceNegSucc, reduceCtorEq, List.getElem?_cons_zero, List.getElem?_cons_succ, List.length_cons, List.length_nil, srcR_c, src_n, src_v, src_s, bnd, lenV, capV, Option.isSome_none, Option.isNone_none, Option.isSome_some, Option.isNone_some, Bool.true_or, Bool.false_or, List.take_succ_cons, List.take_zero, List.drop_succ_cons, List.drop_zero, List.cons_append, List.nil_append, List.drop_nil, List.all_cons, List.all_nil, Bool.true_and, Kd.isRo, List.size_toArray, List.toList_toArray, bldV, Nat.reduceLeDiff, Int.reduceMul, Int.reduceAdd, Int.reduceSub, Int.reduceToNat, maxLen_eq, zeros_one, appS_some, appV_n, appV_v, appH_t, appH_f, Kd.isEx, Bool.false_and, partV, Nat.add_zero, Int.toNat_natCast, f5, hag, hob, g]) | (with_reducible refine condK_dec (fun _ => ?_) (fun _ => ?_)) | (with_reducible refine grd_dec (fun _ => ?_) (fun _ => ?_)) | (with_reducible refine egrd_dec (fun _ => ?_) (fun _ => ?_)))
    refine ⟨xs.length - (j + 1), by omega, j + 1, rfl, by omega, rfl, fun i hi => ?_⟩
    by_cases hij : i = j
    · rw [hij]; exact hin
    · exact hpre i (by omega)
  · have he : inF xs n = false := by rw [Bool.eq_false_iff]; exact fun h => hin (inF_ok.1 h j hjl)
    repeat' (first | (simp (disch := first | omega | (decide +kernel) | (repeat (first | assumption | exact HExt.refl _ | (refine HExt.set ?_ (by first | omega | (simp only [new_nx, set_nx]; omega)) _) | (refine HExt.new ?_ _)))) only [↓RD, RU, accW_t, accW_f, isW, ↓putF_get, ↓putF_none, ↓evF_t, ↓evF_c, ↓evF_f, new_nx, set_nx, new_get, set_get, getD_zero, getD_succ, u_not, pop, lop, aop, wop, resL, resV, tupleV, akV, isVal, isCell, Value.cells, List.map_cons, List.map_nil, Bool.not_true, Bool.not_false, Option.map_some, ↓reduceIte, Nat.reduceEqDiff, Nat.reduceAdd, Int.reduceOfNat, Int.reduceNegSucc, reduceCtorEq, List.getElem?_cons_zero, List.getElem?_cons_succ, List.length_cons, List.length_nil, srcR_c, src_n, src_v, src_s, bnd, lenV, capV, Option.isSome_none, Option.isNone_none, Option.isSome_some, Option.isNone_some, Bool.true_or, Bool.false_or, List.take_succ_cons, List.take_zero, List.drop_succ_cons, List.drop_zero, List.cons_append, List.nil_append, List.drop_nil, List.all_cons, List.all_nil, Bool.true_and, Kd.isRo, List.size_toArray, List.toList_toArray, bldV, Nat.reduceLeDiff, Int.reduceMul, Int.reduceAdd, Int.reduceSub, Int.reduceToNat, maxLen_eq, zeros_one, appS_some, appV_n, appV_v, appH_t, appH_f, Kd.isEx, Bool.false_and, partV, Nat.add_zero, Int.toNat_natCast, f5, hag, hob, g, he]) | (with_reducible refine condK_dec (fun _ => ?_) (fun _ => ?_)) | (with_reducible refine grd_dec (fun _ => ?_) (fun _ => ?_)) | (with_reducible refine egrd_dec (fun _ => ?_) (fun _ => ?_)))
    all_goals (exfalso; omega)
/-- The region that handles at an instruction: the first from k on. -/
def hdlFrom (F : Fn') (at' : Int) : Nat → Nat → Int
  | 0, _ => -1
  | n + 1, k => if (F.rgs.getD k default).f ≤ at' ∧ at' < (F.rgs.getD k default).t then (k : Int) else hdlFrom F at' n (k + 1)
def insAt (F : Fn') (at' : Int) : Ins := F.ins.getD at'.toNat default
def hdlF (F : Fn') (at' : Int) : Int := if at' < 0 ∨ (F.ins.length : Int) ≤ at' ∨ alF (insAt F at').op = false then -1 else hdlFrom F at' F.rgs.length 0
theorem getD_at {α : Type} [Inhabited α] {xs : List α} {j : Nat} (h : j < xs.length) : xs.getD j default = xs[j] := by simp [List.getD, List.getElem?_eq_getElem h]
theorem handler_wp {H : CH} {F : Fn'} {A : FnA} (hF : FnOk H F A) {a : Int} (ha : i64r a) :
    WpF (tblG Try.prog LG GG) 43 [.agg (fnC F A).toArray, .int .i64 a] H fun v K => v = .int .i64 (hdlF F a) ∧ HExt H K := by
  obtain ⟨qn, cn, qc, cc, qi, ci, qr, cr⟩ := A
  have hli := hF.lins
  have hlr := hF.lrgs
  rw [reach_eq] at hli hlr
  unfold i64r at ha
  by_cases hin : 0 ≤ a ∧ a < F.ins.length
  case neg =>
    have e : hdlF F a = -1 := by unfold hdlF; rw [if_pos (by omega)]
    refine wpF_rG (by rfl) (by kernel_rfl) ?_; (conv in (rF _ _).body => reduce); (conv in (rF _ _).res => reduce)
    repeat' (first | (simp (disch := first | omega | (decide +kernel) | (repeat (first | assumption | exact HExt.refl _ | (refine HExt.set ?_ (by first | omega | (simp only [new_nx, set_nx]; omega)) _) | (refine HExt.new ?_ _)))) only [↓RD, RU, accW_t, accW_f, isW, ↓putF_get, ↓putF_none, ↓evF_t, ↓evF_c, ↓evF_f, new_nx, set_nx, new_get, set_get, getD_zero, getD_succ, u_not, pop, lop, aop, wop, resL, resV, tupleV, akV, isVal, isCell, Value.cells, List.map_cons, List.map_nil, Bool.not_true, Bool.not_false, Option.map_some, ↓reduceIte, Nat.reduceEqDiff, Nat.reduceAdd, Int.reduceOfNat, Int.reduceNegSucc, reduceCtorEq, List.getElem?_cons_zero, List.getElem?_cons_succ, List.length_cons, List.length_nil, srcR_c, src_n, src_v, src_s, bnd, lenV, capV, Option.isSome_none, Option.isNone_none, Option.isSome_some, Option.isNone_some, Bool.true_or, Bool.false_or, List.take_succ_cons, List.take_zero, List.drop_succ_cons, List.drop_zero, List.cons_append, List.nil_append, List.drop_nil, List.all_cons, List.all_nil, Bool.true_and, Kd.isRo, List.size_toArray, List.toList_toArray, bldV, Nat.reduceLeDiff, Int.reduceMul, Int.reduceAdd, Int.reduceSub, Int.reduceToNat, maxLen_eq, zeros_one, appS_some, appV_n, appV_v, appH_t, appH_f, Kd.isEx, Bool.false_and, partV, Nat.add_zero, Int.toNat_natCast, fnC, e]) | (with_reducible refine condK_dec (fun _ => ?_) (fun _ => ?_)) | (with_reducible refine grd_dec (fun _ => ?_) (fun _ => ?_)) | (with_reducible refine egrd_dec (fun _ => ?_) (fun _ => ?_)))
    all_goals (first | (repeat (first | assumption | exact HExt.refl _ | (refine HExt.set ?_ (by first | omega | (simp only [new_nx, set_nx]; omega)) _) | (refine HExt.new ?_ _))) | skip)
  have hj : a.toNat < F.ins.length := by omega
  obtain ⟨l, o, os, e, kd, hqi, hl1, hc, hm, hob, hol, q, c, hcs, hsl, hio⟩ := hF.ins.el hj
  simp only at hqi
  subst hqi
  have hop : os[o + a.toNat * 7]? = some (.int .i64 (insAt F a).op) := by
    have := take_get hcs (k := 0) (by decide)
    unfold insAt; rw [getD_at hj]; exact this
  cases hal : alF (insAt F a).op with
  | false =>
    have e : hdlF F a = -1 := by unfold hdlF; rw [if_pos (.inr (.inr hal))]
    refine wpF_rG (by rfl) (by kernel_rfl) ?_; (conv in (rF _ _).body => reduce); (conv in (rF _ _).res => reduce)
    repeat' (first | (simp (disch := first | omega | (decide +kernel) | (repeat (first | assumption | exact HExt.refl _ | (refine HExt.set ?_ (by first | omega | (simp only [new_nx, set_nx]; omega)) _) | (refine HExt.new ?_ _)))) only [↓RD, RU, accW_t, accW_f, isW, ↓putF_get, ↓putF_none, ↓evF_t, ↓evF_c, ↓evF_f, new_nx, set_nx, new_get, set_get, getD_zero, getD_succ, u_not, pop, lop, aop, wop, resL, resV, tupleV, akV, isVal, isCell, Value.cells, List.map_cons, List.map_nil, Bool.not_true, Bool.not_false, Option.map_some, ↓reduceIte, Nat.reduceEqDiff, Nat.reduceAdd, Int.reduceOfNat, Int.reduceNegSucc, reduceCtorEq, List.getElem?_cons_zero, List.getElem?_cons_succ, List.length_cons, List.length_nil, srcR_c, src_n, src_v, src_s, bnd, lenV, capV, Option.isSome_none, Option.isNone_none, Option.isSome_some, Option.isNone_some, Bool.true_or, Bool.false_or, List.take_succ_cons, List.take_zero, List.drop_succ_cons, List.drop_zero, List.cons_append, List.nil_append, List.drop_nil, List.all_cons, List.all_nil, Bool.true_and, Kd.isRo, List.size_toArray, List.toList_toArray, bldV, Nat.reduceLeDiff, Int.reduceMul, Int.reduceAdd, Int.reduceSub, Int.reduceToNat, maxLen_eq, zeros_one, appS_some, appV_n, appV_v, appH_t, appH_f, Kd.isEx, Bool.false_and, partV, Nat.add_zero, Int.toNat_natCast, fnC, e, hob, hop, al_iff, hal]) | (with_reducible refine condK_dec (fun _ => ?_) (fun _ => ?_)) | (with_reducible refine grd_dec (fun _ => ?_) (fun _ => ?_)) | (with_reducible refine egrd_dec (fun _ => ?_) (fun _ => ?_)))
    all_goals (first | (repeat (first | assumption | exact HExt.refl _ | (refine HExt.set ?_ (by first | omega | (simp only [new_nx, set_nx]; omega)) _) | (refine HExt.new ?_ _))) | skip)
  | true =>
    have e : hdlF F a = hdlFrom F a F.rgs.length 0 := by unfold hdlF; rw [if_neg (by rw [hal]; simp; omega)]
    refine wpF_rG (by rfl) (by kernel_rfl) ?_; (conv in (rF _ _).body => reduce); (conv in (rF _ _).res => reduce)
    repeat' (first | (simp (disch := first | omega | (decide +kernel) | (repeat (first | assumption | exact HExt.refl _ | (refine HExt.set ?_ (by first | omega | (simp only [new_nx, set_nx]; omega)) _) | (refine HExt.new ?_ _)))) only [↓RD, RU, accW_t, accW_f, isW, ↓putF_get, ↓putF_none, ↓evF_t, ↓evF_c, ↓evF_f, new_nx, set_nx, new_get, set_get, getD_zero, getD_succ, u_not, pop, lop, aop, wop, resL, resV, tupleV, akV, isVal, isCell, Value.cells, List.map_cons, List.map_nil, Bool.not_true, Bool.not_false, Option.map_some, ↓reduceIte, Nat.reduceEqDiff, Nat.reduceAdd, Int.reduceOfNat, Int.reduceNegSucc, reduceCtorEq, List.getElem?_cons_zero, List.getElem?_cons_succ, List.length_cons, List.length_nil, srcR_c, src_n, src_v, src_s, bnd, lenV, capV, Option.isSome_none, Option.isNone_none, Option.isSome_some, Option.isNone_some, Bool.true_or, Bool.false_or, List.take_succ_cons, List.take_zero, List.drop_succ_cons, List.drop_zero, List.cons_append, List.nil_append, List.drop_nil, List.all_cons, List.all_nil, Bool.true_and, Kd.isRo, List.size_toArray, List.toList_toArray, bldV, Nat.reduceLeDiff, Int.reduceMul, Int.reduceAdd, Int.reduceSub, Int.reduceToNat, maxLen_eq, zeros_one, appS_some, appV_n, appV_v, appH_t, appH_f, Kd.isEx, Bool.false_and, partV, Nat.add_zero, Int.toNat_natCast, fnC, hob, hop, al_iff, hal]) | (with_reducible refine condK_dec (fun _ => ?_) (fun _ => ?_)) | (with_reducible refine grd_dec (fun _ => ?_) (fun _ => ?_)) | (with_reducible refine egrd_dec (fun _ => ?_) (fun _ => ?_)))
    have hE0 : HExt H (H.new (.cells (fnC F ⟨qn, cn, qc, cc, some ⟨l, o, none⟩, ci, qr, cr⟩) 27 .ex)) := by (repeat (first | assumption | exact HExt.refl _ | (refine HExt.set ?_ (by first | omega | (simp only [new_nx, set_nx]; omega)) _) | (refine HExt.new ?_ _)))
    refine loop_w (fun m fr K => ∃ j, m = F.rgs.length - j ∧ j ≤ F.rgs.length ∧ fr 29 = .int .i64 j ∧ HExt (H.new (.cells (fnC F ⟨qn, cn, qc, cc, some ⟨l, o, none⟩, ci, qr, cr⟩) 27 .ex)) K ∧ hdlF F a = hdlFrom F a (F.rgs.length - j) j) ⟨0, rfl, Nat.zero_le _, by repeat' (first | (simp (disch := first | omega | (decide +kernel) | (repeat (first | assumption | exact HExt.refl _ | (refine HExt.set ?_ (by first | omega | (simp only [new_nx, set_nx]; omega)) _) | (refine HExt.new ?_ _)))) only [↓RD, RU, accW_t, accW_f, isW, ↓putF_get, ↓putF_none, ↓evF_t, ↓evF_c, ↓evF_f, new_nx, set_nx, new_get, set_get, getD_zero, getD_succ, u_not, pop, lop, aop, wop, resL, resV, tupleV, akV, isVal, isCell, Value.cells, List.map_cons, List.map_nil, Bool.not_true, Bool.not_false, Option.map_some, ↓reduceIte, Nat.reduceEqDiff, Nat.reduceAdd, Int.reduceOfNat, Int.reduceNegSucc, reduceCtorEq, List.getElem?_cons_zero, List.getElem?_cons_succ, List.length_cons, List.length_nil, srcR_c, src_n, src_v, src_s, bnd, lenV, capV, Option.isSome_none, Option.isNone_none, Option.isSome_some, Option.isNone_some, Bool.true_or, Bool.false_or, List.take_succ_cons, List.take_zero, List.drop_succ_cons, List.drop_zero, List.cons_append, List.nil_append, List.drop_nil, List.all_cons, List.all_nil, Bool.true_and, Kd.isRo, List.size_toArray, List.toList_toArray, bldV, Nat.reduceLeDiff, Int.reduceMul, Int.reduceAdd, Int.reduceSub, Int.reduceToNat, maxLen_eq, zeros_one, appS_some, appV_n, appV_v, appH_t, appH_f, Kd.isEx, Bool.false_and, partV, Nat.add_zero, Int.toNat_natCast]) | (with_reducible refine condK_dec (fun _ => ?_) (fun _ => ?_)) | (with_reducible refine grd_dec (fun _ => ?_) (fun _ => ?_)) | (with_reducible refine egrd_dec (fun _ => ?_) (fun _ => ?_))); rfl, HExt.refl _, e⟩ ?_
    rintro m fr K ⟨j, rfl, hj', f29, hE, hpre⟩ hag
    have hEK := hE0.trans hE
    by_cases hjl : j < F.rgs.length
    case neg =>
      have e2 : hdlF F a = -1 := by rw [hpre, show F.rgs.length - j = 0 by omega]; rfl
      repeat' (first | (simp (disch := first | omega | (decide +kernel) | (repeat (first | assumption | exact HExt.refl _ | (refine HExt.set ?_ (by first | omega | (simp only [new_nx, set_nx]; omega)) _) | (refine HExt.new ?_ _)))) only [↓RD, RU, accW_t, accW_f, isW, ↓putF_get, ↓putF_none, ↓evF_t, ↓evF_c, ↓evF_f, new_nx, set_nx, new_get, set_get, getD_zero, getD_succ, u_not, pop, lop, aop, wop, resL, resV, tupleV, akV, isVal, isCell, Value.cells, List.map_cons, List.map_nil, Bool.not_true, Bool.not_false, Option.map_some, ↓reduceIte, Nat.reduceEqDiff, Nat.reduceAdd, Int.reduceOfNat, Int.reduceNegSucc, reduceCtorEq, List.getElem?_cons_zero, List.getElem?_cons_succ, List.length_cons, List.length_nil, srcR_c, src_n, src_v, src_s, bnd, lenV, capV, Option.isSome_none, Option.isNone_none, Option.isSome_some, Option.isNone_some, Bool.true_or, Bool.false_or, List.take_succ_cons, List.take_zero, List.drop_succ_cons, List.drop_zero, List.cons_append, List.nil_append, List.drop_nil, List.all_cons, List.all_nil, Bool.true_and, Kd.isRo, List.size_toArray, List.toList_toArray, bldV, Nat.reduceLeDiff, Int.reduceMul, Int.reduceAdd, Int.reduceSub, Int.reduceToNat, maxLen_eq, zeros_one, appS_some, appV_n, appV_v, appH_t, appH_f, Kd.isEx, Bool.false_and, partV, Nat.add_zero, Int.toNat_natCast, f29, hag, e2]) | (with_reducible refine condK_dec (fun _ => ?_) (fun _ => ?_)) | (with_reducible refine grd_dec (fun _ => ?_) (fun _ => ?_)) | (with_reducible refine egrd_dec (fun _ => ?_) (fun _ => ?_)))
      all_goals (first | exact hEK | skip)
    obtain ⟨l2, o2, os2, e2, kd2, hqr, hl2, hc2, hm2, hob2, hol2, hrc, hro⟩ := (hF.good hEK).rgs.el hjl
    simp only at hqr
    subst hqr
    have hg := getD_at hjl
    rw [show F.rgs.length - j = (F.rgs.length - (j + 1)) + 1 by omega] at hpre
    simp only [hdlFrom, hg] at hpre
    have hn1 := hEK.nx
    have hn2 : H.nx + 1 ≤ K.nx := hE.nx
    repeat' (first | (simp (disch := first | omega | (decide +kernel) | (repeat (first | assumption | exact HExt.refl _ | (refine HExt.set ?_ (by first | omega | (simp only [new_nx, set_nx]; omega)) _) | (refine HExt.new ?_ _)))) only [↓RD, RU, accW_t, accW_f, isW, ↓putF_get, ↓putF_none, ↓evF_t, ↓evF_c, ↓evF_f, new_nx, set_nx, new_get, set_get, getD_zero, getD_succ, u_not, pop, lop, aop, wop, resL, resV, tupleV, akV, isVal, isCell, Value.cells, List.map_cons, List.map_nil, Bool.not_true, Bool.not_false, Option.map_some, ↓reduceIte, Nat.reduceEqDiff, Nat.reduceAdd, Int.reduceOfNat, Int.reduceNegSucc, reduceCtorEq, List.getElem?_cons_zero, List.getElem?_cons_succ, List.length_cons, List.length_nil, srcR_c, src_n, src_v, src_s, bnd, lenV, capV, Option.isSome_none, Option.isNone_none, Option.isSome_some, Option.isNone_some, Bool.true_or, Bool.false_or, List.take_succ_cons, List.take_zero, List.drop_succ_cons, List.drop_zero, List.cons_append, List.nil_append, List.drop_nil, List.all_cons, List.all_nil, Bool.true_and, Kd.isRo, List.size_toArray, List.toList_toArray, bldV, Nat.reduceLeDiff, Int.reduceMul, Int.reduceAdd, Int.reduceSub, Int.reduceToNat, maxLen_eq, zeros_one, appS_some, appV_n, appV_v, appH_t, appH_f, Kd.isEx, Bool.false_and, partV, Nat.add_zero, Int.toNat_natCast, f29, hag, fnC, hob2, hrc, rgnC]) | (with_reducible refine condK_dec (fun _ => ?_) (fun _ => ?_)) | (with_reducible refine grd_dec (fun _ => ?_) (fun _ => ?_)) | (with_reducible refine egrd_dec (fun _ => ?_) (fun _ => ?_)))
    all_goals first
      | exact ⟨by rw [hpre, if_pos (by omega)], by (repeat (first | assumption | exact HExt.refl _ | (refine HExt.set ?_ (by first | omega | (simp only [new_nx, set_nx]; omega)) _) | (refine HExt.new ?_ _)))⟩
      | exact ⟨_, by omega, j + 1, rfl, by omega, rfl, by (repeat (first | assumption | exact HExt.refl _ | (refine HExt.set ?_ (by first | omega | (simp only [new_nx, set_nx]; omega)) _) | (refine HExt.new ?_ _))), by rw [hpre, if_neg (by omega)]⟩
theorem rhandler_wp {H : CH} {F : Fn'} {A : FnA} (hF : FnOk H F A) {a : Int} (ha : i64r a) :
    WpF (tblG Try.prog LG GG) 32 [.agg (fnC F A).toArray, .int .i64 a] H fun v K => v = .int .i64 (hdlF F a) ∧ HExt H K := by
  obtain ⟨qn, cn, qc, cc, qi, ci, qr, cr⟩ := A
  have hli := hF.lins
  have hlr := hF.lrgs
  rw [reach_eq] at hli hlr
  unfold i64r at ha
  by_cases hin : 0 ≤ a ∧ a < F.ins.length
  case neg =>
    have e : hdlF F a = -1 := by unfold hdlF; rw [if_pos (by omega)]
    refine wpF_rG (by rfl) (by kernel_rfl) ?_; (conv in (rF _ _).body => reduce); (conv in (rF _ _).res => reduce)
    repeat' (first | (simp (disch := first | omega | (decide +kernel) | (repeat (first | assumption | exact HExt.refl _ | (refine HExt.set ?_ (by first | omega | (simp only [new_nx, set_nx]; omega)) _) | (refine HExt.new ?_ _)))) only [↓RD, RU, accW_t, accW_f, isW, ↓putF_get, ↓putF_none, ↓evF_t, ↓evF_c, ↓evF_f, new_nx, set_nx, new_get, set_get, getD_zero, getD_succ, u_not, pop, lop, aop, wop, resL, resV, tupleV, akV, isVal, isCell, Value.cells, List.map_cons, List.map_nil, Bool.not_true, Bool.not_false, Option.map_some, ↓reduceIte, Nat.reduceEqDiff, Nat.reduceAdd, Int.reduceOfNat, Int.reduceNegSucc, reduceCtorEq, List.getElem?_cons_zero, List.getElem?_cons_succ, List.length_cons, List.length_nil, srcR_c, src_n, src_v, src_s, bnd, lenV, capV, Option.isSome_none, Option.isNone_none, Option.isSome_some, Option.isNone_some, Bool.true_or, Bool.false_or, List.take_succ_cons, List.take_zero, List.drop_succ_cons, List.drop_zero, List.cons_append, List.nil_append, List.drop_nil, List.all_cons, List.all_nil, Bool.true_and, Kd.isRo, List.size_toArray, List.toList_toArray, bldV, Nat.reduceLeDiff, Int.reduceMul, Int.reduceAdd, Int.reduceSub, Int.reduceToNat, maxLen_eq, zeros_one, appS_some, appV_n, appV_v, appH_t, appH_f, Kd.isEx, Bool.false_and, partV, Nat.add_zero, Int.toNat_natCast, fnC, e]) | (with_reducible refine condK_dec (fun _ => ?_) (fun _ => ?_)) | (with_reducible refine grd_dec (fun _ => ?_) (fun _ => ?_)) | (with_reducible refine egrd_dec (fun _ => ?_) (fun _ => ?_)))
    all_goals (first | (repeat (first | assumption | exact HExt.refl _ | (refine HExt.set ?_ (by first | omega | (simp only [new_nx, set_nx]; omega)) _) | (refine HExt.new ?_ _))) | skip)
  have hj : a.toNat < F.ins.length := by omega
  obtain ⟨l, o, os, e, kd, hqi, hl1, hc, hm, hob, hol, q, c, hcs, hsl, hio⟩ := hF.ins.el hj
  simp only at hqi
  subst hqi
  have hop : os[o + a.toNat * 7]? = some (.int .i64 (insAt F a).op) := by
    have := take_get hcs (k := 0) (by decide)
    unfold insAt; rw [getD_at hj]; exact this
  cases hal : alF (insAt F a).op with
  | false =>
    have e : hdlF F a = -1 := by unfold hdlF; rw [if_pos (.inr (.inr hal))]
    refine wpF_rG (by rfl) (by kernel_rfl) ?_; (conv in (rF _ _).body => reduce); (conv in (rF _ _).res => reduce)
    repeat' (first | (simp (disch := first | omega | (decide +kernel) | (repeat (first | assumption | exact HExt.refl _ | (refine HExt.set ?_ (by first | omega | (simp only [new_nx, set_nx]; omega)) _) | (refine HExt.new ?_ _)))) only [↓RD, RU, accW_t, accW_f, isW, ↓putF_get, ↓putF_none, ↓evF_t, ↓evF_c, ↓evF_f, new_nx, set_nx, new_get, set_get, getD_zero, getD_succ, u_not, pop, lop, aop, wop, resL, resV, tupleV, akV, isVal, isCell, Value.cells, List.map_cons, List.map_nil, Bool.not_true, Bool.not_false, Option.map_some, ↓reduceIte, Nat.reduceEqDiff, Nat.reduceAdd, Int.reduceOfNat, Int.reduceNegSucc, reduceCtorEq, List.getElem?_cons_zero, List.getElem?_cons_succ, List.length_cons, List.length_nil, srcR_c, src_n, src_v, src_s, bnd, lenV, capV, Option.isSome_none, Option.isNone_none, Option.isSome_some, Option.isNone_some, Bool.true_or, Bool.false_or, List.take_succ_cons, List.take_zero, List.drop_succ_cons, List.drop_zero, List.cons_append, List.nil_append, List.drop_nil, List.all_cons, List.all_nil, Bool.true_and, Kd.isRo, List.size_toArray, List.toList_toArray, bldV, Nat.reduceLeDiff, Int.reduceMul, Int.reduceAdd, Int.reduceSub, Int.reduceToNat, maxLen_eq, zeros_one, appS_some, appV_n, appV_v, appH_t, appH_f, Kd.isEx, Bool.false_and, partV, Nat.add_zero, Int.toNat_natCast, fnC, e, hob, hop, ral_iff, hal]) | (with_reducible refine condK_dec (fun _ => ?_) (fun _ => ?_)) | (with_reducible refine grd_dec (fun _ => ?_) (fun _ => ?_)) | (with_reducible refine egrd_dec (fun _ => ?_) (fun _ => ?_)))
    all_goals (first | (repeat (first | assumption | exact HExt.refl _ | (refine HExt.set ?_ (by first | omega | (simp only [new_nx, set_nx]; omega)) _) | (refine HExt.new ?_ _))) | skip)
  | true =>
    have e : hdlF F a = hdlFrom F a F.rgs.length 0 := by unfold hdlF; rw [if_neg (by rw [hal]; simp; omega)]
    refine wpF_rG (by rfl) (by kernel_rfl) ?_; (conv in (rF _ _).body => reduce); (conv in (rF _ _).res => reduce)
    repeat' (first | (simp (disch := first | omega | (decide +kernel) | (repeat (first | assumption | exact HExt.refl _ | (refine HExt.set ?_ (by first | omega | (simp only [new_nx, set_nx]; omega)) _) | (refine HExt.new ?_ _)))) only [↓RD, RU, accW_t, accW_f, isW, ↓putF_get, ↓putF_none, ↓evF_t, ↓evF_c, ↓evF_f, new_nx, set_nx, new_get, set_get, getD_zero, getD_succ, u_not, pop, lop, aop, wop, resL, resV, tupleV, akV, isVal, isCell, Value.cells, List.map_cons, List.map_nil, Bool.not_true, Bool.not_false, Option.map_some, ↓reduceIte, Nat.reduceEqDiff, Nat.reduceAdd, Int.reduceOfNat, Int.reduceNegSucc, reduceCtorEq, List.getElem?_cons_zero, List.getElem?_cons_succ, List.length_cons, List.length_nil, srcR_c, src_n, src_v, src_s, bnd, lenV, capV, Option.isSome_none, Option.isNone_none, Option.isSome_some, Option.isNone_some, Bool.true_or, Bool.false_or, List.take_succ_cons, List.take_zero, List.drop_succ_cons, List.drop_zero, List.cons_append, List.nil_append, List.drop_nil, List.all_cons, List.all_nil, Bool.true_and, Kd.isRo, List.size_toArray, List.toList_toArray, bldV, Nat.reduceLeDiff, Int.reduceMul, Int.reduceAdd, Int.reduceSub, Int.reduceToNat, maxLen_eq, zeros_one, appS_some, appV_n, appV_v, appH_t, appH_f, Kd.isEx, Bool.false_and, partV, Nat.add_zero, Int.toNat_natCast, fnC, hob, hop, ral_iff, hal]) | (with_reducible refine condK_dec (fun _ => ?_) (fun _ => ?_)) | (with_reducible refine grd_dec (fun _ => ?_) (fun _ => ?_)) | (with_reducible refine egrd_dec (fun _ => ?_) (fun _ => ?_)))
    have hE0 : HExt H (H.new (.cells (fnC F ⟨qn, cn, qc, cc, some ⟨l, o, none⟩, ci, qr, cr⟩) 27 .ex)) := by (repeat (first | assumption | exact HExt.refl _ | (refine HExt.set ?_ (by first | omega | (simp only [new_nx, set_nx]; omega)) _) | (refine HExt.new ?_ _)))
    refine loop_w (fun m fr K => ∃ j, m = F.rgs.length - j ∧ j ≤ F.rgs.length ∧ fr 5 = .int .i64 j ∧ K = (H.new (.cells (fnC F ⟨qn, cn, qc, cc, some ⟨l, o, none⟩, ci, qr, cr⟩) 27 .ex)) ∧ hdlF F a = hdlFrom F a (F.rgs.length - j) j) ⟨0, rfl, Nat.zero_le _, by repeat' (first | (simp (disch := first | omega | (decide +kernel) | (repeat (first | assumption | exact HExt.refl _ | (refine HExt.set ?_ (by first | omega | (simp only [new_nx, set_nx]; omega)) _) | (refine HExt.new ?_ _)))) only [↓RD, RU, accW_t, accW_f, isW, ↓putF_get, ↓putF_none, ↓evF_t, ↓evF_c, ↓evF_f, new_nx, set_nx, new_get, set_get, getD_zero, getD_succ, u_not, pop, lop, aop, wop, resL, resV, tupleV, akV, isVal, isCell, Value.cells, List.map_cons, List.map_nil, Bool.not_true, Bool.not_false, Option.map_some, ↓reduceIte, Nat.reduceEqDiff, Nat.reduceAdd, Int.reduceOfNat, Int.reduceNegSucc, reduceCtorEq, List.getElem?_cons_zero, List.getElem?_cons_succ, List.length_cons, List.length_nil, srcR_c, src_n, src_v, src_s, bnd, lenV, capV, Option.isSome_none, Option.isNone_none, Option.isSome_some, Option.isNone_some, Bool.true_or, Bool.false_or, List.take_succ_cons, List.take_zero, List.drop_succ_cons, List.drop_zero, List.cons_append, List.nil_append, List.drop_nil, List.all_cons, List.all_nil, Bool.true_and, Kd.isRo, List.size_toArray, List.toList_toArray, bldV, Nat.reduceLeDiff, Int.reduceMul, Int.reduceAdd, Int.reduceSub, Int.reduceToNat, maxLen_eq, zeros_one, appS_some, appV_n, appV_v, appH_t, appH_f, Kd.isEx, Bool.false_and, partV, Nat.add_zero, Int.toNat_natCast]) | (with_reducible refine condK_dec (fun _ => ?_) (fun _ => ?_)) | (with_reducible refine grd_dec (fun _ => ?_) (fun _ => ?_)) | (with_reducible refine egrd_dec (fun _ => ?_) (fun _ => ?_))); rfl, rfl, e⟩ ?_
    rintro m fr K ⟨j, rfl, hj', f5, hK, hpre⟩ hag
    have hE : HExt (H.new (.cells (fnC F ⟨qn, cn, qc, cc, some ⟨l, o, none⟩, ci, qr, cr⟩) 27 .ex)) K := by rw [hK]; exact HExt.refl _
    have hEK := hE0.trans hE
    have hb : K.ob H.nx = .cells (fnC F ⟨qn, cn, qc, cc, some ⟨l, o, none⟩, ci, qr, cr⟩) 27 .ex := by rw [hK]; simp only [new_get, if_true]
    by_cases hjl : j < F.rgs.length
    case neg =>
      have e2 : hdlF F a = -1 := by rw [hpre, show F.rgs.length - j = 0 by omega]; rfl
      repeat' (first | (simp (disch := first | omega | (decide +kernel) | (repeat (first | assumption | exact HExt.refl _ | (refine HExt.set ?_ (by first | omega | (simp only [new_nx, set_nx]; omega)) _) | (refine HExt.new ?_ _)))) only [↓RD, RU, accW_t, accW_f, isW, ↓putF_get, ↓putF_none, ↓evF_t, ↓evF_c, ↓evF_f, new_nx, set_nx, new_get, set_get, getD_zero, getD_succ, u_not, pop, lop, aop, wop, resL, resV, tupleV, akV, isVal, isCell, Value.cells, List.map_cons, List.map_nil, Bool.not_true, Bool.not_false, Option.map_some, ↓reduceIte, Nat.reduceEqDiff, Nat.reduceAdd, Int.reduceOfNat, Int.reduceNegSucc, reduceCtorEq, List.getElem?_cons_zero, List.getElem?_cons_succ, List.length_cons, List.length_nil, srcR_c, src_n, src_v, src_s, bnd, lenV, capV, Option.isSome_none, Option.isNone_none, Option.isSome_some, Option.isNone_some, Bool.true_or, Bool.false_or, List.take_succ_cons, List.take_zero, List.drop_succ_cons, List.drop_zero, List.cons_append, List.nil_append, List.drop_nil, List.all_cons, List.all_nil, Bool.true_and, Kd.isRo, List.size_toArray, List.toList_toArray, bldV, Nat.reduceLeDiff, Int.reduceMul, Int.reduceAdd, Int.reduceSub, Int.reduceToNat, maxLen_eq, zeros_one, appS_some, appV_n, appV_v, appH_t, appH_f, Kd.isEx, Bool.false_and, partV, Nat.add_zero, Int.toNat_natCast, f5, hag, fnC, hb, e2]) | (with_reducible refine condK_dec (fun _ => ?_) (fun _ => ?_)) | (with_reducible refine grd_dec (fun _ => ?_) (fun _ => ?_)) | (with_reducible refine egrd_dec (fun _ => ?_) (fun _ => ?_)))
      all_goals (first | exact hEK | skip)
    obtain ⟨l2, o2, os2, e2, kd2, hqr, hl2, hc2, hm2, hob2, hol2, hrc, hro⟩ := (hF.good hEK).rgs.el hjl
    simp only at hqr
    subst hqr
    have hg := getD_at hjl
    have g0 : os2[o2 + j * 4]? = some (.int .i64 F.rgs[j].f) := take_get hrc (k := 0) (by decide)
    have g1 : os2[o2 + j * 4 + 1]? = some (.int .i64 F.rgs[j].t) := take_get hrc (k := 1) (by decide)
    rw [show F.rgs.length - j = (F.rgs.length - (j + 1)) + 1 by omega] at hpre
    simp only [hdlFrom, hg] at hpre
    repeat' (first | (simp (disch := first | omega | (decide +kernel) | (repeat (first | assumption | exact HExt.refl _ | (refine HExt.set ?_ (by first | omega | (simp only [new_nx, set_nx]; omega)) _) | (refine HExt.new ?_ _)))) only [↓RD, RU, accW_t, accW_f, isW, ↓putF_get, ↓putF_none, ↓evF_t, ↓evF_c, ↓evF_f, new_nx, set_nx, new_get, set_get, getD_zero, getD_succ, u_not, pop, lop, aop, wop, resL, resV, tupleV, akV, isVal, isCell, Value.cells, List.map_cons, List.map_nil, Bool.not_true, Bool.not_false, Option.map_some, ↓reduceIte, Nat.reduceEqDiff, Nat.reduceAdd, Int.reduceOfNat, Int.reduceNegSucc, reduceCtorEq, List.getElem?_cons_zero, List.getElem?_cons_succ, List.length_cons, List.length_nil, srcR_c, src_n, src_v, src_s, bnd, lenV, capV, Option.isSome_none, Option.isNone_none, Option.isSome_some, Option.isNone_some, Bool.true_or, Bool.false_or, List.take_succ_cons, List.take_zero, List.drop_succ_cons, List.drop_zero, List.cons_append, List.nil_append, List.drop_nil, List.all_cons, List.all_nil, Bool.true_and, Kd.isRo, List.size_toArray, List.toList_toArray, bldV, Nat.reduceLeDiff, Int.reduceMul, Int.reduceAdd, Int.reduceSub, Int.reduceToNat, maxLen_eq, zeros_one, appS_some, appV_n, appV_v, appH_t, appH_f, Kd.isEx, Bool.false_and, partV, Nat.add_zero, Int.toNat_natCast, f5, hag, fnC, hb, hob2, g0, g1]) | (with_reducible refine condK_dec (fun _ => ?_) (fun _ => ?_)) | (with_reducible refine grd_dec (fun _ => ?_) (fun _ => ?_)) | (with_reducible refine egrd_dec (fun _ => ?_) (fun _ => ?_)))
    all_goals first
      | exact ⟨by rw [hpre, if_pos (by omega)], by (repeat (first | assumption | exact HExt.refl _ | (refine HExt.set ?_ (by first | omega | (simp only [new_nx, set_nx]; omega)) _) | (refine HExt.new ?_ _)))⟩
      | exact ⟨_, by omega, j + 1, rfl, by omega, rfl, hK, by rw [hpre, if_neg (by omega)]⟩
end Can
end Go.Proofs.Ytapcoeecjlkdgaa
