/- Arena: the chapter's example answers as it must. -/
import Derived.Test.YtopnmlonapimjaaArAlloc
namespace Go.Proofs.Ytopnmlonapimjaa
namespace Can
open Go Go.RowKit
set_option linter.unusedSimpArgs false
set_option linter.unusedVariables false
set_option maxRecDepth 4000
theorem MemAt.self {H K : CH} {mb wb c : Nat} {kd : Kd} {us : List Int} {top : Int} (h : MemAt H K mb wb c kd us top) : MemAt K K mb wb c kd us top := ⟨rfl, h.hmb, h.hwb, fun _ _ _ => rfl⟩
/-- What MemAt keeps of an older memory. -/
theorem MemAt.ext {A H K : CH} {mb wb c : Nat} {kd : Kd} {us : List Int} {top : Int} (h : MemAt H K mb wb c kd us top) (hx : HExt A H) (h1 : A.nx ≤ mb) (h2 : A.nx ≤ wb) : HExt A K := ⟨by rw [h.hnx]; exact hx.nx, fun l hl => (h.hot l (by omega) (by omega)).trans (hx.ob l hl)⟩
theorem words_own {H : CH} {b c : Nat} {ws : List Int} {kd : Kd} (hl : b < H.nx) (hob : H.ob b = .cells (ws.map (.int .u64)) 29 kd) (hc : ws.length ≤ c) (hc2 : c ≤ maxLen) (hwf : ∀ x ∈ ws, (Lit.int .u64 x).wf = true) : Words H (some ⟨b, 0, none⟩) c ws := by
  refine ⟨.inr ⟨b, 0, _, _, _, rfl, hl, hc, hc2, hob, by simp, fun i hi => ?_⟩, okSl_own hob⟩
  refine ⟨?_, hwf _ (List.getElem_mem hi)⟩
  rw [Nat.zero_add, Nat.mul_one, ← List.map_drop, ← List.map_take, List.drop_eq_getElem_cons hi]
  rfl
/-- Alloc refuses: no room. -/
theorem alloc_full {H : CH} {mb wb c : Nat} {kd : Kd} {ws : List Int} {t : Nat} (hm : MemAt H H mb wb c kd ws t) (hl : ws.length ≤ 9223372036854775807) (k tg rw : Nat) (h1 : 1 ≤ t) (h2 : t ≤ ws.length) (h3 : 1 ≤ k) (h4 : k ≤ 255) (h5 : tg ≤ 1048576) (h6 : rw ≤ 1048576) (h7 : ws.length < t + (2 + tg + rw)) :
    WpF (tblG Try.prog LG GG) 30 [.pointer (some ⟨mb, 0, none⟩), .int .i64 k, .int .i64 tg, .int .i64 rw] H fun v K => v = .tuple #[.int .i64 0, .int .i64 5] ∧ K = H := by
  have hmb := hm.hmb
  refine wpF_rG (by rfl) (by kernel_rfl) ?_; (conv in (rF _ _).body => reduce); (conv in (rF _ _).res => reduce)
  repeat' (first | (simp (disch := first | omega | (decide +kernel) | (repeat first | assumption | exact HExt.refl _ | refine HExt.set ?_ (by first | omega | (simp only [new_nx, set_nx]; omega)) _ | refine HExt.new ?_ _)) only [↓RD, RU, accW_t, accW_f, isW, ↓putF_get, ↓putF_none, ↓evF_t, ↓evF_c, ↓evF_f, new_nx, set_nx, new_get, set_get, getD_zero, getD_succ, u_not, pop, lop, aop, wop, resL, resV, tupleV, akV, isVal, isCell, Value.cells, ρ0, ρ1, ρ2, ρ3, ρ4, ↓reduceIte, Nat.reduceEqDiff, Nat.reduceAdd, Int.reduceOfNat, Int.reduceNegSucc, reduceCtorEq, ρ5, ρ6, ρ7, ρ8, srcR_c, src_n, src_v, src_s, bnd, lenV, capV, ρ9, ρ10, ρ11, ρ12, ρ13, ρ14, ρ15, ρ16, ρ17, ρ18, ρ19, ρ20, ρ21, ρ22, ρ23, ρ24, Kd.isRo, ρ25, ρ26, bldV, Nat.reduceLeDiff, Int.reduceMul, Int.reduceAdd, Int.reduceSub, Int.reduceToNat, maxLen_eq, zeros_one, appS_some, appV_n, appV_v, appH_t, appH_f, Kd.isEx, ρ27, partV, ρ28, ρ29, hmb]) | (with_reducible first | refine condK_dec (fun _ => ?_) fun _ => ?_ | refine grd_dec (fun _ => ?_) fun _ => ?_ | refine egrd_dec (fun _ => ?_) fun _ => ?_))
  all_goals first | rfl | exact ⟨rfl, rfl⟩
end Can
end Go.Proofs.Ytopnmlonapimjaa
