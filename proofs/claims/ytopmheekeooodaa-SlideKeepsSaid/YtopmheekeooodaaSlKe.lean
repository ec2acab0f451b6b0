/- The roots stay, the answer is new memory: a copy with room, and what is told. -/
import Derived.Test.YtopmheekeooodaaSlAq
import Derived.Test.YtopmheekeooodaaSlColW
namespace Go.Proofs.Ytopmheekeooodaa
namespace Can
open Go Go.RowKit
set_option linter.unusedSimpArgs false
set_option linter.unusedVariables false
set_option maxRecDepth 4000
def SK : Spec := fun f args H v H' => (f = 12 → v = .bool true) ∧ (f ≠ 12 → WpF (tblG Try.prog LG GG) f args H fun u K => u = v ∧ K = H')
def LK : List FuncId := [5, 6, 7, 8, 9, 10, 11, 12]
noncomputable abbrev TK : Tbl := tblS Try.prog LG GG LK SK
theorem tk_ok {B : Nat} : TblOk Try.prog B TK := tblS_ok GG_ok
/-- What the runs of the other table show, is told. -/
theorem told_wp {f : FuncId} {args : List Value} {H : CH} {Q : Value → CH → Prop} (h : WpF (tblG Try.prog LG GG) f args H Q) (hf : LK.elem f = true) (hne : f ≠ 12) (hc : callable Try.prog f = true) : WpF TK f args H Q := by
  obtain ⟨n, v, H', h1, h2⟩ := h
  have hx : WpF (tblG Try.prog LG GG) f args H fun u K => u = v ∧ K = H' := ⟨n, v, H', h1, rfl, rfl⟩
  refine wpF_tell hf ⟨v, H', ⟨fun e => absurd e hne, fun _ => hx⟩, fun B => ⟨hc, fun β w args' hS ha => callsIn_wide.2 (calls_of_ev tg_ok h1 hS ha hc)⟩⟩ fun v2 H2 hS => ?_
  exact (wpF_iff (hS.2 hne)).1 ⟨n, v, H', h1, h2⟩
theorem knownK_iff {H : CH} {Q : Value → CH → Prop} : WpF TK 4 [] H Q ↔ Q (.bool true) H := wpF_GS (by rfl) (by rfl) (by rfl)
/-- The marks in the room behind a list. -/
def roomV (n i : Nat) : Value := .int .u64 (7770000 + ((n + i : Nat) : Int))
def roomL (roots : List Int) (k : Nat) : List Value := roots.map (.int .u64) ++ (List.range k).map (roomV roots.length) ++ List.replicate (6 - k) (.int .u64 0)
theorem zeros_rep (z : Value) (n : Nat) : zeros [z] n = List.replicate n z := by
  refine List.ext_getElem? fun i => ?_
  unfold zeros
  rw [List.getElem?_map, List.getElem?_replicate]
  by_cases h : i < n
  · rw [List.getElem?_range h, if_pos h]; simp [Nat.mod_one]
  · rw [List.getElem?_eq_none (by simp; omega), if_neg h]; rfl
theorem roomL_len {roots : List Int} {k : Nat} (h : k ≤ 6) : (roomL roots k).length = roots.length + 6 := by simp [roomL]; omega
theorem roomL_cell {roots : List Int} {k : Nat} : (roomL roots k).all isCell = true := by
  unfold roomL
  rw [List.all_append, List.all_append]
  simp [isCell, roomV, List.all_eq_true]
theorem roomL_put {roots : List Int} {k : Nat} (h : k < 6) : setCells (roomL roots k) (roots.length + k) [roomV roots.length k] = roomL roots (k + 1) := by
  have e : setCells (roomL roots k) (roots.length + k) [roomV roots.length k] = (roomL roots k).set (roots.length + k) (roomV roots.length k) := by
    unfold setCells
    rw [List.set_eq_take_append_cons_drop, if_pos (by rw [roomL_len (by omega)]; omega)]; simp
  rw [e]
  unfold roomL
  rw [List.append_assoc, List.set_append_right _ _ (by simp), List.append_assoc, List.length_map]
  congr 1
  rw [Nat.add_sub_cancel_left, List.set_append_right _ _ (by simp), List.length_map, List.length_range, Nat.sub_self, List.range_succ, List.map_append, List.append_assoc]
  congr 1
  rw [show 6 - k = (6 - (k + 1)) + 1 by omega, List.replicate_succ]
  rfl
theorem cpy_room {H : CH} {q : Option Addr} {d : Nat} {roots : List Int} (hs : SlAt 1 (CInt .u64) H q d roots) {K : CH} (hx : HExt H K) {b : Nat} (hb : H.nx ≤ b) (hk : K.ob b = .cells (List.replicate (roots.length + 6) (.int .u64 0)) 42 .ex) :
    ∃ v K', cpyV K (.slice (some ⟨b, 0, none⟩) (roots.length + 6) (roots.length + 6)) (.slice q roots.length d) = some (v, K') ∧ K'.nx = K.nx ∧ K'.ob b = .cells (roomL roots 0) 42 .ex ∧ ∀ z, z ≠ b → K'.ob z = K.ob z := by
  have hsrc := src_ints (hs.good (CInt.good _) hx)
  rw [flat_ints] at hsrc
  by_cases h0 : roots.length = 0
  · have : roots = [] := List.length_eq_zero_iff.1 h0
    subst this
    refine ⟨.int .i64 0, K, ?_, rfl, ?_, fun _ _ => rfl⟩
    · unfold cpyV
      simp only [wop, evF, hsrc, Nat.reduceEqDiff, if_true, if_false]
      rw [if_pos (.inr rfl)]
    · rw [hk]; rfl
  · refine ⟨.int .i64 (roots.length : Nat), K.set b (.cells (roomL roots 0) 42 .ex), ?_, rfl, by rw [set_get, if_pos rfl], fun z hz => by rw [set_get, if_neg hz]⟩
    · unfold cpyV
      simp only [wop, evF, hsrc, Nat.reduceEqDiff, if_true, if_false]
      rw [if_neg (fun h => h.elim (fun h => by omega) h0)]
      simp only [hk]
      have hm : min roots.length (roots.length + 6) = roots.length := by omega
      have hset : setCells (List.replicate (roots.length + 6) (Value.int .u64 0)) 0 ((roots.map (.int .u64)).take (roots.length * 1)) = roomL roots 0 := by
        have ht : (roots.map (Value.int .u64)).take roots.length = roots.map (.int .u64) := List.take_of_length_le (by simp)
        unfold setCells roomL
        rw [Nat.mul_one, ht, List.take_zero, List.nil_append, List.drop_replicate, List.range_zero, List.map_nil, List.append_nil, List.length_map, Nat.zero_add]
        congr 2
        omega
      rw [hm, if_pos ⟨rfl, by simp, by simp [isCell]⟩, hset]
theorem room_wp {H : CH} {q : Option Addr} {d : Nat} {roots : List Int} (hs : SlAt 1 (CInt .u64) H q d roots) (hl : roots.length ≤ 17592186043904) :
    WpF (tblG Try.prog LG GG) 6 [.slice q roots.length d] H fun v K => HExt H K ∧ v = .slice (some ⟨H.nx, 0, none⟩) roots.length (roots.length + 6) ∧ K.nx = H.nx + 1 ∧ K.ob H.nx = .cells (roomL roots 6) 42 .ex := by
  have hn6 : ((roots.length : Int) + 6).toNat = roots.length + 6 := by omega
  have hE0 : HExt H (H.new (.cells (List.replicate (roots.length + 6) (.int .u64 0)) 42 .ex)) := by (repeat (first | assumption | exact HExt.refl _ | (refine HExt.set ?_ (by first | omega | (simp only [new_nx, set_nx]; omega)) _) | (refine HExt.new ?_ _)))
  obtain ⟨v, K', h1, h2, h3, h4⟩ := cpy_room hs hE0 (Nat.le_refl _) (by rw [new_get, if_pos rfl])
  refine wpF_rG (by rfl) (by kernel_rfl) ?_; (conv in (rF _ _).body => reduce); (conv in (rF _ _).res => reduce)
  repeat' (first | (simp (disch := first | omega | (decide +kernel) | (repeat first | assumption | exact HExt.refl _ | refine HExt.set ?_ (by first | omega | (simp only [new_nx, set_nx]; omega)) _ | refine HExt.new ?_ _)) only [↓RD, RU, accW_t, accW_f, isW, ↓putF_get, ↓putF_none, ↓evF_t, ↓evF_c, ↓evF_f, new_nx, set_nx, new_get, set_get, getD_zero, getD_succ, u_not, pop, lop, aop, wop, resL, resV, tupleV, akV, isVal, isCell, Value.cells, ρ0, ρ1, ρ2, ρ3, ρ4, ↓reduceIte, Nat.reduceEqDiff, Nat.reduceAdd, Int.reduceOfNat, Int.reduceNegSucc, reduceCtorEq, ρ5, ρ6, ρ7, ρ8, srcR_c, src_n, src_v, src_s, bnd, lenV, capV, ρ9, ρ10, ρ11, ρ12, ρ13, ρ14, ρ15, ρ16, ρ17, ρ18, ρ19, ρ20, ρ21, ρ22, ρ23, ρ24, Kd.isRo, ρ25, ρ26, bldV, Nat.reduceLeDiff, Int.reduceMul, Int.reduceAdd, Int.reduceSub, Int.reduceToNat, maxLen_eq, zeros_one, appS_some, appV_n, appV_v, appH_t, appH_f, Kd.isEx, ρ27, partV, CH.set_set, lkV, lkR, isKey, mupV, nxtV, ρ28, ρ29, ↓w_cpyV, hn6, zeros_rep, h1]) | (with_reducible first | refine condK_dec (fun _ => ?_) fun _ => ?_ | refine grd_dec (fun _ => ?_) fun _ => ?_ | refine egrd_dec (fun _ => ?_) fun _ => ?_))
  have hn : K'.nx = H.nx + 1 := h2
  have ho : ∀ z, z < H.nx → K'.ob z = H.ob z := fun z hz => (h4 z (by omega)).trans (by rw [new_get, if_neg (by omega)])
  refine loop_w (fun m fr K => ∃ i : Nat, m = 6 - i ∧ i ≤ 6 ∧ fr 4 = .int .i64 ((roots.length + i : Nat) : Int) ∧ K.nx = H.nx + 1 ∧ K.ob H.nx = .cells (roomL roots i) 42 .ex ∧ ∀ z, z < H.nx → K.ob z = H.ob z) (n := 6) ⟨0, rfl, Nat.zero_le _, by (repeat' (first | (simp (disch := first | omega | (decide +kernel) | (repeat first | assumption | exact HExt.refl _ | refine HExt.set ?_ (by first | omega | (simp only [new_nx, set_nx]; omega)) _ | refine HExt.new ?_ _)) only [↓RD, RU, accW_t, accW_f, isW, ↓putF_get, ↓putF_none, ↓evF_t, ↓evF_c, ↓evF_f, new_nx, set_nx, new_get, set_get, getD_zero, getD_succ, u_not, pop, lop, aop, wop, resL, resV, tupleV, akV, isVal, isCell, Value.cells, ρ0, ρ1, ρ2, ρ3, ρ4, ↓reduceIte, Nat.reduceEqDiff, Nat.reduceAdd, Int.reduceOfNat, Int.reduceNegSucc, reduceCtorEq, ρ5, ρ6, ρ7, ρ8, srcR_c, src_n, src_v, src_s, bnd, lenV, capV, ρ9, ρ10, ρ11, ρ12, ρ13, ρ14, ρ15, ρ16, ρ17, ρ18, ρ19, ρ20, ρ21, ρ22, ρ23, ρ24, Kd.isRo, ρ25, ρ26, bldV, Nat.reduceLeDiff, Int.reduceMul, Int.reduceAdd, Int.reduceSub, Int.reduceToNat, maxLen_eq, zeros_one, appS_some, appV_n, appV_v, appH_t, appH_f, Kd.isEx, ρ27, partV, CH.set_set, lkV, lkR, isKey, mupV, nxtV, ρ28, ρ29]) | (with_reducible first | refine condK_dec (fun _ => ?_) fun _ => ?_ | refine grd_dec (fun _ => ?_) fun _ => ?_ | refine egrd_dec (fun _ => ?_) fun _ => ?_))); all_goals rfl, hn, h3, ho⟩ ?_
  rintro m fr K ⟨i, rfl, hi, f4, g1, g2, g3⟩ hag
  have hlen := roomL_len (roots := roots) hi
  by_cases hi6 : i < 6
  case pos =>
    repeat' (first | (simp (disch := first | omega | (decide +kernel) | (repeat first | assumption | exact HExt.refl _ | refine HExt.set ?_ (by first | omega | (simp only [new_nx, set_nx]; omega)) _ | refine HExt.new ?_ _)) only [↓RD, RU, accW_t, accW_f, isW, ↓putF_get, ↓putF_none, ↓evF_t, ↓evF_c, ↓evF_f, new_nx, set_nx, new_get, set_get, getD_zero, getD_succ, u_not, pop, lop, aop, wop, resL, resV, tupleV, akV, isVal, isCell, Value.cells, ρ0, ρ1, ρ2, ρ3, ρ4, ↓reduceIte, Nat.reduceEqDiff, Nat.reduceAdd, Int.reduceOfNat, Int.reduceNegSucc, reduceCtorEq, ρ5, ρ6, ρ7, ρ8, srcR_c, src_n, src_v, src_s, bnd, lenV, capV, ρ9, ρ10, ρ11, ρ12, ρ13, ρ14, ρ15, ρ16, ρ17, ρ18, ρ19, ρ20, ρ21, ρ22, ρ23, ρ24, Kd.isRo, ρ25, ρ26, bldV, Nat.reduceLeDiff, Int.reduceMul, Int.reduceAdd, Int.reduceSub, Int.reduceToNat, maxLen_eq, zeros_one, appS_some, appV_n, appV_v, appH_t, appH_f, Kd.isEx, ρ27, partV, CH.set_set, lkV, lkR, isKey, mupV, nxtV, ρ28, ρ29, f4, hag, g2, hlen]) | (with_reducible first | refine condK_dec (fun _ => ?_) fun _ => ?_ | refine grd_dec (fun _ => ?_) fun _ => ?_ | refine egrd_dec (fun _ => ?_) fun _ => ?_))
    have hp := roomL_put (roots := roots) hi6
    refine ⟨_, by omega, i + 1, rfl, by omega, by rw [Nat.add_succ]; rfl, g1, congrArg (fun x => CObj.cells x 42 .ex) hp, fun z hz => ?_⟩
    rw [if_neg (by omega)]
    exact g3 z hz
  case neg =>
  have : i = 6 := by omega
  subst this
  have hok : okSl K 42 (.slice (some ⟨H.nx, 0, none⟩) (roots.length + 6) (roots.length + 6)) = true := okSl_own g2
  have hsl : sliceV 1 (.slice (some ⟨H.nx, 0, none⟩) (roots.length + 6) (roots.length + 6)) ((0 : Nat) : Int) (roots.length : Int) ((roots.length + 6 : Nat) : Int) false = some (.slice (some ⟨H.nx, 0, none⟩) roots.length (roots.length + 6)) := by
    rw [slice_all (by omega) (by omega) (by omega)]
    have e1 : ((roots.length : Int) - ((0 : Nat) : Int)).toNat = roots.length := by omega
    have e2 : (((roots.length + 6 : Nat) : Int) - ((0 : Nat) : Int)).toNat = roots.length + 6 := by omega
    rw [e1, e2]; rfl
  repeat' (first | (simp (disch := first | omega | (decide +kernel) | (repeat first | assumption | exact HExt.refl _ | refine HExt.set ?_ (by first | omega | (simp only [new_nx, set_nx]; omega)) _ | refine HExt.new ?_ _)) only [↓RD, RU, accW_t, accW_f, isW, ↓putF_get, ↓putF_none, ↓evF_t, ↓evF_c, ↓evF_f, new_nx, set_nx, new_get, set_get, getD_zero, getD_succ, u_not, pop, lop, aop, wop, resL, resV, tupleV, akV, isVal, isCell, Value.cells, ρ0, ρ1, ρ2, ρ3, ρ4, ↓reduceIte, Nat.reduceEqDiff, Nat.reduceAdd, Int.reduceOfNat, Int.reduceNegSucc, reduceCtorEq, ρ5, ρ6, ρ7, ρ8, srcR_c, src_n, src_v, src_s, bnd, lenV, capV, ρ9, ρ10, ρ11, ρ12, ρ13, ρ14, ρ15, ρ16, ρ17, ρ18, ρ19, ρ20, ρ21, ρ22, ρ23, ρ24, Kd.isRo, ρ25, ρ26, bldV, Nat.reduceLeDiff, Int.reduceMul, Int.reduceAdd, Int.reduceSub, Int.reduceToNat, maxLen_eq, zeros_one, appS_some, appV_n, appV_v, appH_t, appH_f, Kd.isEx, ρ27, partV, CH.set_set, lkV, lkR, isKey, mupV, nxtV, ρ28, ρ29, f4, hag, g2, hlen, hok, hsl]) | (with_reducible first | refine condK_dec (fun _ => ?_) fun _ => ?_ | refine grd_dec (fun _ => ?_) fun _ => ?_ | refine egrd_dec (fun _ => ?_) fun _ => ?_))
  exact ⟨⟨by omega, g3⟩, g1⟩
theorem kept_wp {H : CH} {q : Option Addr} {b d : Nat} {roots : List Int} (hs : SlAt 1 (CInt .u64) H q d roots) (hl : roots.length ≤ 17592186043904) (hb : H.ob b = .cells (roomL roots 6) 42 .ex) :
    WpF (tblG Try.prog LG GG) 11 [.slice (some ⟨b, 0, none⟩) roots.length (roots.length + 6), .slice q roots.length d] H fun v K => v = .bool true ∧ K = H := by
  have hok : okSl H 42 (.slice (some ⟨b, 0, none⟩) roots.length (roots.length + 6)) = true := okSl_own hb
  have hsl : sliceV 1 (.slice (some ⟨b, 0, none⟩) roots.length (roots.length + 6)) ((0 : Nat) : Int) ((roots.length : Int) + 6) ((roots.length + 6 : Nat) : Int) false = some (.slice (some ⟨b, 0, none⟩) (roots.length + 6) (roots.length + 6)) := by
    rw [slice_all (by omega) (by omega) (by omega)]
    have e1 : ((roots.length : Int) + 6 - ((0 : Nat) : Int)).toNat = roots.length + 6 := by omega
    have e2 : (((roots.length + 6 : Nat) : Int) - ((0 : Nat) : Int)).toNat = roots.length + 6 := by omega
    rw [e1, e2]; rfl
  have hlen := roomL_len (roots := roots) (Nat.le_refl 6)
  refine wpF_rG (by rfl) (by kernel_rfl) ?_; (conv in (rF _ _).body => reduce); (conv in (rF _ _).res => reduce)
  repeat' (first | (simp (disch := first | omega | (decide +kernel) | (repeat first | assumption | exact HExt.refl _ | refine HExt.set ?_ (by first | omega | (simp only [new_nx, set_nx]; omega)) _ | refine HExt.new ?_ _)) only [↓RD, RU, accW_t, accW_f, isW, ↓putF_get, ↓putF_none, ↓evF_t, ↓evF_c, ↓evF_f, new_nx, set_nx, new_get, set_get, getD_zero, getD_succ, u_not, pop, lop, aop, wop, resL, resV, tupleV, akV, isVal, isCell, Value.cells, ρ0, ρ1, ρ2, ρ3, ρ4, ↓reduceIte, Nat.reduceEqDiff, Nat.reduceAdd, Int.reduceOfNat, Int.reduceNegSucc, reduceCtorEq, ρ5, ρ6, ρ7, ρ8, srcR_c, src_n, src_v, src_s, bnd, lenV, capV, ρ9, ρ10, ρ11, ρ12, ρ13, ρ14, ρ15, ρ16, ρ17, ρ18, ρ19, ρ20, ρ21, ρ22, ρ23, ρ24, Kd.isRo, ρ25, ρ26, bldV, Nat.reduceLeDiff, Int.reduceMul, Int.reduceAdd, Int.reduceSub, Int.reduceToNat, maxLen_eq, zeros_one, appS_some, appV_n, appV_v, appH_t, appH_f, Kd.isEx, ρ27, partV, CH.set_set, lkV, lkR, isKey, mupV, nxtV, ρ28, ρ29, hok, hsl]) | (with_reducible first | refine condK_dec (fun _ => ?_) fun _ => ?_ | refine grd_dec (fun _ => ?_) fun _ => ?_ | refine egrd_dec (fun _ => ?_) fun _ => ?_))
  refine loop_w (fun m fr K => ∃ i : Nat, m = roots.length + 6 - i ∧ i ≤ roots.length + 6 ∧ fr 6 = .int .i64 (i : Int) ∧ K = H) (n := roots.length + 6) ⟨0, rfl, Nat.zero_le _, by (repeat' (first | (simp (disch := first | omega | (decide +kernel) | (repeat first | assumption | exact HExt.refl _ | refine HExt.set ?_ (by first | omega | (simp only [new_nx, set_nx]; omega)) _ | refine HExt.new ?_ _)) only [↓RD, RU, accW_t, accW_f, isW, ↓putF_get, ↓putF_none, ↓evF_t, ↓evF_c, ↓evF_f, new_nx, set_nx, new_get, set_get, getD_zero, getD_succ, u_not, pop, lop, aop, wop, resL, resV, tupleV, akV, isVal, isCell, Value.cells, ρ0, ρ1, ρ2, ρ3, ρ4, ↓reduceIte, Nat.reduceEqDiff, Nat.reduceAdd, Int.reduceOfNat, Int.reduceNegSucc, reduceCtorEq, ρ5, ρ6, ρ7, ρ8, srcR_c, src_n, src_v, src_s, bnd, lenV, capV, ρ9, ρ10, ρ11, ρ12, ρ13, ρ14, ρ15, ρ16, ρ17, ρ18, ρ19, ρ20, ρ21, ρ22, ρ23, ρ24, Kd.isRo, ρ25, ρ26, bldV, Nat.reduceLeDiff, Int.reduceMul, Int.reduceAdd, Int.reduceSub, Int.reduceToNat, maxLen_eq, zeros_one, appS_some, appV_n, appV_v, appH_t, appH_f, Kd.isEx, ρ27, partV, CH.set_set, lkV, lkR, isKey, mupV, nxtV, ρ28, ρ29]) | (with_reducible first | refine condK_dec (fun _ => ?_) fun _ => ?_ | refine grd_dec (fun _ => ?_) fun _ => ?_ | refine egrd_dec (fun _ => ?_) fun _ => ?_))); all_goals rfl, rfl⟩ ?_
  rintro m fr K ⟨i, rfl, hi, f6, rfl⟩ hag
  by_cases hi6 : i < roots.length + 6
  case pos =>
    by_cases hil : i < roots.length
    · obtain ⟨l, o, os, e, kd, rfl, h2, h3, h4, h5, h6, h7, h8⟩ := hs.ints (by omega)
      have hr : (roomL roots 6)[i]? = some (.int .u64 (roots.getD i 0)) := by
        unfold roomL
        rw [List.append_assoc, List.getElem?_append_left (by simpa using hil), List.getElem?_map, List.getElem?_eq_getElem hil, List.getD_eq_getElem?_getD, List.getElem?_eq_getElem hil]; rfl
      have g1 := h7 i hil
      repeat' (first | (simp (disch := first | omega | (decide +kernel) | (repeat first | assumption | exact HExt.refl _ | refine HExt.set ?_ (by first | omega | (simp only [new_nx, set_nx]; omega)) _ | refine HExt.new ?_ _)) only [↓RD, RU, accW_t, accW_f, isW, ↓putF_get, ↓putF_none, ↓evF_t, ↓evF_c, ↓evF_f, new_nx, set_nx, new_get, set_get, getD_zero, getD_succ, u_not, pop, lop, aop, wop, resL, resV, tupleV, akV, isVal, isCell, Value.cells, ρ0, ρ1, ρ2, ρ3, ρ4, ↓reduceIte, Nat.reduceEqDiff, Nat.reduceAdd, Int.reduceOfNat, Int.reduceNegSucc, reduceCtorEq, ρ5, ρ6, ρ7, ρ8, srcR_c, src_n, src_v, src_s, bnd, lenV, capV, ρ9, ρ10, ρ11, ρ12, ρ13, ρ14, ρ15, ρ16, ρ17, ρ18, ρ19, ρ20, ρ21, ρ22, ρ23, ρ24, Kd.isRo, ρ25, ρ26, bldV, Nat.reduceLeDiff, Int.reduceMul, Int.reduceAdd, Int.reduceSub, Int.reduceToNat, maxLen_eq, zeros_one, appS_some, appV_n, appV_v, appH_t, appH_f, Kd.isEx, ρ27, partV, CH.set_set, lkV, lkR, isKey, mupV, nxtV, ρ28, ρ29, f6, hag, hb, hlen, hr, h5, g1]) | (with_reducible first | refine condK_dec (fun _ => ?_) fun _ => ?_ | refine grd_dec (fun _ => ?_) fun _ => ?_ | refine egrd_dec (fun _ => ?_) fun _ => ?_))
      exact ⟨_, by omega, i + 1, rfl, by omega, rfl⟩
    · have hr : (roomL roots 6)[i]? = some (.int .u64 (7770000 + (i : Int))) := by
        obtain ⟨j, rfl⟩ : ∃ j, i = roots.length + j := ⟨i - roots.length, by omega⟩
        unfold roomL
        rw [List.append_assoc, List.getElem?_append_right (by simp), List.length_map, Nat.add_sub_cancel_left, List.getElem?_append_left (by simp; omega), List.getElem?_map, List.getElem?_range (by omega)]; rfl
      repeat' (first | (simp (disch := first | omega | (decide +kernel) | (repeat first | assumption | exact HExt.refl _ | refine HExt.set ?_ (by first | omega | (simp only [new_nx, set_nx]; omega)) _ | refine HExt.new ?_ _)) only [↓RD, RU, accW_t, accW_f, isW, ↓putF_get, ↓putF_none, ↓evF_t, ↓evF_c, ↓evF_f, new_nx, set_nx, new_get, set_get, getD_zero, getD_succ, u_not, pop, lop, aop, wop, resL, resV, tupleV, akV, isVal, isCell, Value.cells, ρ0, ρ1, ρ2, ρ3, ρ4, ↓reduceIte, Nat.reduceEqDiff, Nat.reduceAdd, Int.reduceOfNat, Int.reduceNegSucc, reduceCtorEq, ρ5, ρ6, ρ7, ρ8, srcR_c, src_n, src_v, src_s, bnd, lenV, capV, ρ9, ρ10, ρ11, ρ12, ρ13, ρ14, ρ15, ρ16, ρ17, ρ18, ρ19, ρ20, ρ21, ρ22, ρ23, ρ24, Kd.isRo, ρ25, ρ26, bldV, Nat.reduceLeDiff, Int.reduceMul, Int.reduceAdd, Int.reduceSub, Int.reduceToNat, maxLen_eq, zeros_one, appS_some, appV_n, appV_v, appH_t, appH_f, Kd.isEx, ρ27, partV, CH.set_set, lkV, lkR, isKey, mupV, nxtV, ρ28, ρ29, f6, hag, hb, hlen, hr]) | (with_reducible first | refine condK_dec (fun _ => ?_) fun _ => ?_ | refine grd_dec (fun _ => ?_) fun _ => ?_ | refine egrd_dec (fun _ => ?_) fun _ => ?_))
      exact ⟨_, by omega, i + 1, rfl, by omega, rfl⟩
  case neg =>
  repeat' (first | (simp (disch := first | omega | (decide +kernel) | (repeat first | assumption | exact HExt.refl _ | refine HExt.set ?_ (by first | omega | (simp only [new_nx, set_nx]; omega)) _ | refine HExt.new ?_ _)) only [↓RD, RU, accW_t, accW_f, isW, ↓putF_get, ↓putF_none, ↓evF_t, ↓evF_c, ↓evF_f, new_nx, set_nx, new_get, set_get, getD_zero, getD_succ, u_not, pop, lop, aop, wop, resL, resV, tupleV, akV, isVal, isCell, Value.cells, ρ0, ρ1, ρ2, ρ3, ρ4, ↓reduceIte, Nat.reduceEqDiff, Nat.reduceAdd, Int.reduceOfNat, Int.reduceNegSucc, reduceCtorEq, ρ5, ρ6, ρ7, ρ8, srcR_c, src_n, src_v, src_s, bnd, lenV, capV, ρ9, ρ10, ρ11, ρ12, ρ13, ρ14, ρ15, ρ16, ρ17, ρ18, ρ19, ρ20, ρ21, ρ22, ρ23, ρ24, Kd.isRo, ρ25, ρ26, bldV, Nat.reduceLeDiff, Int.reduceMul, Int.reduceAdd, Int.reduceSub, Int.reduceToNat, maxLen_eq, zeros_one, appS_some, appV_n, appV_v, appH_t, appH_f, Kd.isEx, ρ27, partV, CH.set_set, lkV, lkR, isKey, mupV, nxtV, ρ28, ρ29, f6, hag, hb, hlen]) | (with_reducible first | refine condK_dec (fun _ => ?_) fun _ => ?_ | refine grd_dec (fun _ => ?_) fun _ => ?_ | refine egrd_dec (fun _ => ?_) fun _ => ?_))
  all_goals simp
end Can
end Go.Proofs.Ytopmheekeooodaa
