/- Arena: what seems to lie at an address; both ways of saying it. -/
import Derived.Test.YtopmheekeooodaaCanWord
namespace Go.Proofs.Ytopmheekeooodaa
namespace Can
open Go Go.RowKit
set_option linter.unusedSimpArgs false
set_option linter.unusedVariables false
set_option maxRecDepth 4000
def wd (ws : List Int) (i : Nat) : Int := ws.getD i 0
def hdK (h : Int) : Int := h % 256
def hdT (h : Int) : Int := h / 256 % 16777216
def hdS (h : Int) : Int := h / 4294967296 % 16777216
def inA (top a n : Int) : Bool := decide (3 ≤ top ∧ top ≤ n ∧ 1 ≤ a ∧ a < top - 1)
def okH (h top a : Int) : Bool := decide (0 < hdK h ∧ 2 + hdT h ≤ hdS h ∧ hdS h ≤ top - a)
/-- A memory's words in a row of cells. -/
def Words (H : CH) (a : Option Addr) (c : Nat) (ws : List Int) : Prop := SlAt 1 (CInt .u64) H a c ws ∧ okSl H 42 (.slice a ws.length c) = true
theorem Words.good {H K : CH} {a : Option Addr} {c : Nat} {ws : List Int} (hx : HExt H K) (h : Words H a c ws) : Words K a c ws := by
  refine ⟨h.1.good (CInt.good _) hx, ?_⟩
  rcases h.1 with ⟨rfl, rfl, rfl | rfl | rfl⟩ | ⟨l, o, os, e, k, rfl, hl, _⟩
  · rfl
  · rfl
  · rfl
  · exact okSl_ext (hx.ob l hl) h.2
theorem u64_wf {x : Int} (h : (Lit.int .u64 x).wf = true) : 0 ≤ x ∧ x < 18446744073709551616 := by
  simp [Lit.wf, IntKind.min, IntKind.max, IntKind.signed, IntKind.bits] at h; omega
theorem tup2 {a b c d : Value} (h : a = c) (k : b = d) : Value.tuple #[a, b] = .tuple #[c, d] := by rw [h, k]
theorem look_wp {H : CH} {p : Option Addr} {c : Nat} {ws : List Int} (hw : Words H p c ws) (top a : Int) (h1 : -9223372036854775808 ≤ top) (h2 : top ≤ 9223372036854775807) (h3 : -9223372036854775808 ≤ a) (h4 : a ≤ 9223372036854775807) (h5 : ws.length ≤ 9223372036854775807) :
    WpF (tblG Try.prog LG GG) 30 [.agg #[.slice p ws.length c, .int .i64 top], .int .i64 a] H fun v K => v = (if inA top a ws.length then .tuple #[.agg #[.int .i64 a, .int .i64 (hdK (wd ws a.toNat)), .int .i64 (hdT (wd ws a.toNat)), .int .i64 (hdS (wd ws a.toNat))], .bool (okH (wd ws a.toNat) top a)] else .tuple #[.agg #[.int .i64 0, .int .i64 0, .int .i64 0, .int .i64 0], .bool false]) ∧ HExt H K := by
  by_cases hin : inA top a ws.length = true
  · have hin' := of_decide_eq_true hin
    rw [if_pos hin]
    obtain ⟨l, o, os, e, kd, rfl, hl, hc, hm, hob, hol, hos, hwf⟩ := hw.1.ints (by omega)
    have hlo := u64_wf (hwf a.toNat (by omega))
    refine wpF_rG (by rfl) (by kernel_rfl) ?_; (conv in (rF _ _).body => reduce); (conv in (rF _ _).res => reduce)
    repeat' (first | (simp (disch := first | omega | (decide +kernel) | (repeat first | assumption | exact HExt.refl _ | refine HExt.set ?_ (by first | omega | (simp only [new_nx, set_nx]; omega)) _ | refine HExt.new ?_ _)) only [↓RD, RU, accW_t, accW_f, isW, ↓putF_get, ↓putF_none, ↓evF_t, ↓evF_c, ↓evF_f, new_nx, set_nx, new_get, set_get, getD_zero, getD_succ, u_not, pop, lop, aop, wop, resL, resV, tupleV, akV, isVal, isCell, Value.cells, ρ0, ρ1, ρ2, ρ3, ρ4, ↓reduceIte, Nat.reduceEqDiff, Nat.reduceAdd, Int.reduceOfNat, Int.reduceNegSucc, reduceCtorEq, ρ5, ρ6, ρ7, ρ8, srcR_c, src_n, src_v, src_s, bnd, lenV, capV, ρ9, ρ10, ρ11, ρ12, ρ13, ρ14, ρ15, ρ16, ρ17, ρ18, ρ19, ρ20, ρ21, ρ22, ρ23, ρ24, Kd.isRo, ρ25, ρ26, bldV, Nat.reduceLeDiff, Int.reduceMul, Int.reduceAdd, Int.reduceSub, Int.reduceToNat, maxLen_eq, zeros_one, appS_some, appV_n, appV_v, appH_t, appH_f, Kd.isEx, ρ27, partV, CH.set_set, lkV, lkR, isKey, mupV, nxtV, ρ28, ρ29, hob, hos]) | (with_reducible first | refine condK_dec (fun _ => ?_) fun _ => ?_ | refine grd_dec (fun _ => ?_) fun _ => ?_ | refine egrd_dec (fun _ => ?_) fun _ => ?_))
    all_goals
      refine ⟨tup2 rfl (congrArg _ ?_), ?_⟩
      · unfold okH hdK hdT hdS wd
        first | (exact decide_eq_decide.2 (by omega)) | (exact (decide_eq_false (by omega)).symm)
      · (repeat (first | assumption | exact HExt.refl _ | (refine HExt.set ?_ (by first | omega | (simp only [new_nx, set_nx]; omega)) _) | (refine HExt.new ?_ _)))
  · have hin' := of_decide_eq_false (Bool.eq_false_iff.2 hin)
    rw [if_neg hin]
    refine wpF_rG (by rfl) (by kernel_rfl) ?_; (conv in (rF _ _).body => reduce); (conv in (rF _ _).res => reduce)
    repeat' (first | (simp (disch := first | omega | (decide +kernel) | (repeat first | assumption | exact HExt.refl _ | refine HExt.set ?_ (by first | omega | (simp only [new_nx, set_nx]; omega)) _ | refine HExt.new ?_ _)) only [↓RD, RU, accW_t, accW_f, isW, ↓putF_get, ↓putF_none, ↓evF_t, ↓evF_c, ↓evF_f, new_nx, set_nx, new_get, set_get, getD_zero, getD_succ, u_not, pop, lop, aop, wop, resL, resV, tupleV, akV, isVal, isCell, Value.cells, ρ0, ρ1, ρ2, ρ3, ρ4, ↓reduceIte, Nat.reduceEqDiff, Nat.reduceAdd, Int.reduceOfNat, Int.reduceNegSucc, reduceCtorEq, ρ5, ρ6, ρ7, ρ8, srcR_c, src_n, src_v, src_s, bnd, lenV, capV, ρ9, ρ10, ρ11, ρ12, ρ13, ρ14, ρ15, ρ16, ρ17, ρ18, ρ19, ρ20, ρ21, ρ22, ρ23, ρ24, Kd.isRo, ρ25, ρ26, bldV, Nat.reduceLeDiff, Int.reduceMul, Int.reduceAdd, Int.reduceSub, Int.reduceToNat, maxLen_eq, zeros_one, appS_some, appV_n, appV_v, appH_t, appH_f, Kd.isEx, ρ27, partV, CH.set_set, lkV, lkR, isKey, mupV, nxtV, ρ28, ρ29]) | (with_reducible first | refine condK_dec (fun _ => ?_) fun _ => ?_ | refine grd_dec (fun _ => ?_) fun _ => ?_ | refine egrd_dec (fun _ => ?_) fun _ => ?_))
    all_goals (repeat (first | assumption | exact HExt.refl _ | (refine HExt.set ?_ (by first | omega | (simp only [new_nx, set_nx]; omega)) _) | (refine HExt.new ?_ _)))
end Can
end Go.Proofs.Ytopmheekeooodaa
