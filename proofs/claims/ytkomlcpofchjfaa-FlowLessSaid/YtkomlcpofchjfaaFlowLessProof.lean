/- FlowLess: for every argument the call returns true, and the arguments read as before. No condition. -/
import Derived.Test.YtkomlcpofchjfaaFlLesLaw
import Derived.Test.YtkomlcpofchjfaaFlOpen
namespace Go.Proofs.Ytkomlcpofchjfaa.flowLess
open Go.ChangeShapes Go.WideShapes Go.ChangeAt Go.RowKit Can
set_option linter.unusedVariables false
set_option linter.unusedSimpArgs false

theorem own : ownKnob Try.prog.godebug = none := by kernel_rfl
theorem laidOut : laidOutB Try.prog = true := by kernel_rfl
theorem fn_of {v : Value} {L : List Value} (h : (czv v).cells.toList = L) (hl : 2 ≤ L.length) : czv v = .agg L.toArray := by
  match L, hl with
  | a :: b :: r, _ => exact agg_of h
theorem sl_of {a : Option Addr} {n c : Nat} {v : Value} (h : (czv (.slice a n c)).cells.toList = [v]) : czv (.slice a n c) = v := by
  have h1 : (czv (.slice a n c)).cells.toList = [czv (.slice a n c)] := by
    have hz : czv (.slice a n c) = cz (.slice a n c) := rfl
    rw [cells_czv, hz]; rfl
  rw [h1] at h
  exact (List.cons.inj h).1

set_option maxRecDepth 100000 in
theorem lifted (os : Os) (started : os.Started) (H : Type) (enc : TypeId × Value → H) :
    ReturnsInHanded {} Try.checked os 5 .any (Rows.flowLessSpec.pre6 enc Try.prog Try.f5 Rows.flowLessRow.domain false) (Rows.flowLessSpec.post enc Try.prog Try.f5 false true false false) := by
  refine returnsInHanded_of_change_sized (C := Try.checked) own started (by kernel_rfl) Try.func5
    (ChangeSpec.witness6 (enc := enc) (C := Try.checked) false ⟨#[], #[.agg #[.string .empty, .int .i64 0, .int .i64 0, .int .i64 0, .bool false, .int .i64 0, .slice none 0 0, .slice none 0 0, .slice none 0 0, .slice none 0 0], .int .i64 0], []⟩ 8 (by kernel_rfl) (by kernel_rfl) (by kernel_rfl) (by kernel_rfl)) ?_
  intro W base args ds gs before hval0 hW hcnd hsz0 _
  have hval : ∀ (j : Nat) t v, Try.f5.params[j]? = some t → args[j]? = some v → Value.okWide Try.prog W .any base t v := hval0
  have hW' := hW
  obtain ⟨p, q, hA0, hV, rfl, hfz, hnd⟩ := hW
  have hA : DataW.TrodAll enc Try.prog W 0 (fun _ => true) true Try.f5.params.toList args.toList ds p := hA0
  have hsz : (DataW.weightsEach Try.prog (Try.f5.params.toList ++ Rows.flowLessSpec.plain.varTypes Try.prog) (ds ++ gs)).all (· ≤ reachBytes) = true := hsz0
  rw [Try.params5] at hA hval hsz
  obtain ⟨v0, vs0, d0, ds0, p0, q0, hargs, rfl, rfl, h0, r0⟩ := trodAll_cons hA
  obtain ⟨v1, vs1, d1, ds1, p1, q1, rfl, rfl, rfl, h1, r1⟩ := trodAll_cons r0
  obtain ⟨rfl, rfl, rfl⟩ := trodAll_nil r1
  obtain rfl : args = #[v0, v1] := by cases args; simp_all
  obtain ⟨rfl, rfl⟩ := trodVars_none hV
  have k0 := h0
  have lt0 : ∀ x ∈ p0, x.block < W.heap.size := by obtain ⟨m, hm⟩ := k0; exact DataW.trod_lt m _ _ _ hm
  have hsz0 : (d0.weights Try.prog 27).all (· ≤ reachBytes) = true := sized_arg (j := 0) hsz rfl rfl
  obtain ⟨hvr0, hlen0, F, ⟨A, hcs0, hF0⟩, hz0, _⟩ := co_trod co_fn h0
  have hF := hF0.ok (hz0 hsz0)
  have hv0 : czv v0 = .agg (fnC F A).toArray := fn_of hcs0 (by simp [fnC])
  obtain ⟨a1, rfl, rfl, rfl, w1⟩ := open_int Try.underlying3 (hval 1 3 v1 rfl rfl) h1
  have hc := calls_true (w := W) tg_ok (VRs.cons hvr0 (VRs.cons (.int .i64 a1) (VRs.nil _))) (by rw [hv0]; exact less_wp hF (i64_wf w1))
  refine Calls.mono hc fun e W' ⟨he, bel⟩ => ?_
  subst he
  exact ⟨_, rfl, _, _, _, [], _, [], hW', trodAll_mk1 (shut_bool Try.underlying4 _), (trodAll_cons_mk (Below.trod laidOut (by kernel_rfl) (of_decide_eq_true (by kernel_rfl)) k0 bel lt0) (trodAll_cons_mk (shut_int Try.underlying3 w1) trodAll_mk0)), rfl, bel.frame _, fun h => by cases h⟩

theorem over : Rows.flowLessRow.holds Try.pinned (OpenSpec.ofChange Rows.flowLessSpec) :=
  OpenClaim.holds_of_wide 5 Try.f5 rfl rfl rfl rfl rfl rfl rfl ⟨rfl, rfl, rfl, rfl, rfl⟩ rfl rfl rfl rfl rfl (by kernel_rfl) Try.func5 (by kernel_rfl)
    (of_decide_eq_true (by kernel_rfl)) (by unfold Func.isWrapper; first | (rw [if_pos (by decide +kernel)]; kernel_rfl) | (rw [if_neg (by decide +kernel)]; exact ⟨rfl, rfl⟩))
    (fun os started H enc _ => lifted os started H enc)

theorem proved : Rows.FlowLessSaid := over
#print axioms proved
end Go.Proofs.Ytkomlcpofchjfaa.flowLess
